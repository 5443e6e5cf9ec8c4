/-
  Maps from entities' names to numbers: what one holds, name by name; ranging over one. The conditions: none (definitions and lemmas).
-/
import Derived.Test.YtpkgkabcikmopaaEnt
import Derived.Test.YtpkgkabcikmopaaOwn
import Derived.Maps.RangeWalk
import Derived.DeepKeys4
namespace Go.Proofs.Ytpkgkabcikmopaa
open Go.RowKit Go.Maps

theorem Try.wideU : (match Try.prog.underlying 23 with | some (.array _ _) | some (.struct _) => true | _ => false) = true := by rw [Try.underlying23]
theorem Try.laidU : laidOutB Try.prog = true := by kernel_rfl
theorem Try.keyU : Try.prog.keyType 23 = true := by kernel_rfl
set_option maxRecDepth 100000 in
theorem Try.lawU : Keyed Try.prog 23 := Keyed.of_law (deep_law_laid Try.laidU (m := 2) (by omega) (of_decide_eq_true (by kernel_rfl)) (by kernel_rfl) Try.wideU)
theorem Try.zeroI (w : World) : (zeroValue 3).run Try.prog w = .ok (.int .i64 0) w := by kernel_rfl
theorem Try.cellsU : Try.prog.cellsOf 23 = 2 := by kernel_rfl
theorem Try.cellsS : Try.prog.cellsOf 9 = 1 := by kernel_rfl
theorem Try.typesU : ∃ n, Try.prog.types.size + 1 = n + 2 := ⟨Try.prog.types.size - 1, by have : 1 ≤ Try.prog.types.size := of_decide_eq_true (by kernel_rfl); omega⟩

/-- a name that may be -/
def FitU (u : Uid) : Prop := u.1.size ≤ maxLen ∧ u.2.size ≤ maxLen
/-- a name as a value -/
def valU (u : Uid) : Value := .agg #[.string u.1, .string u.2]
/-- what it reads as -/
def litU (u : Uid) : Lit := .string (keyBytes [.string u.1.data.toList, .string u.2.data.toList])

theorem keyU_lits (a b : Value) (n : Nat) : Try.prog.keyLits (n + 2) 23 [a, b] = ((Try.prog.keyLits (n + 1) 9 [a]).bind fun x => (Try.prog.keyLits (n + 1) 9 [b]).map fun y => x ++ y) := by
  conv => lhs; unfold Program.keyLits
  simp only [Try.underlying23, Try.cellsU]
  cases h1 : Try.prog.keyLits (n + 1) 9 [a] <;> cases h2 : Try.prog.keyLits (n + 1) 9 [b] <;> simp [Try.cellsS, h1, h2]
theorem key_of_uid {u : Uid} (h : FitU u) : keyOf Try.prog 23 (valU u) = some (litU u) := by
  obtain ⟨n, hn⟩ := Try.typesU
  have hs : ∀ s : ByteArray, s.size ≤ maxLen → Try.prog.keyLits (n + 1) 9 [.string s] = some [.string s.data.toList] := fun s hs => by
    unfold Program.keyLits
    simp [Try.underlying9, hs]
  unfold keyOf valU litU
  simp only [Try.underlying23, Try.keyU, Value.formed, Try.cellsU, hn]
  simp only [Value.cells, keyU_lits, hs _ h.1, hs _ h.2]
  rfl
theorem uid_of_key {v : Value} {kl : Lit} (h : keyOf Try.prog 23 v = some kl) : ∃ u, v = valU u ∧ FitU u ∧ kl = litU u := by
  obtain ⟨n, hn⟩ := Try.typesU
  have h0 := h
  unfold keyOf at h
  simp only [Try.underlying23, Try.keyU, hn] at h
  cases v with
  | agg cs =>
    simp only [Value.formed, Try.underlying23, Try.cellsU, Bool.true_and] at h
    split at h
    · rename_i hs
      have hs0 : cs.toList.length = 2 := by simpa using hs
      clear hs
      obtain ⟨a, b, hab⟩ : ∃ a b, cs.toList = [a, b] := by
        match cs.toList, hs0 with
        | [a, b], _ => exact ⟨a, b, rfl⟩
      have hcs : cs = #[a, b] := by rw [← Array.toArray_toList (xs := cs), hab]
      subst hcs
      have hstr : ∀ x l, Try.prog.keyLits (n + 1) 9 [x] = some l → ∃ s : ByteArray, x = .string s ∧ s.size ≤ maxLen := fun x l hl => by
        unfold Program.keyLits at hl
        simp only [Try.underlying9] at hl
        cases x <;> simp at hl
        exact ⟨_, rfl, hl.1⟩
      simp only [Value.cells, keyU_lits] at h
      cases h1 : Try.prog.keyLits (n + 1) 9 [a] with
      | none => rw [h1] at h; simp at h
      | some l1 =>
        cases h2 : Try.prog.keyLits (n + 1) 9 [b] with
        | none => rw [h1, h2] at h; simp at h
        | some l2 =>
          obtain ⟨s, rfl, hs1⟩ := hstr a l1 h1
          obtain ⟨t, rfl, hs2⟩ := hstr b l2 h2
          refine ⟨(s, t), rfl, ⟨hs1, hs2⟩, ?_⟩
          have := key_of_uid (u := (s, t)) ⟨hs1, hs2⟩
          rw [show valU (s, t) = .agg #[.string s, .string t] from rfl, h0] at this
          exact Option.some.inj this
    · cases h
  | _ => simp [Value.formed, Try.underlying23] at h
set_option maxRecDepth 100000 in
theorem litU_inj {u v : Uid} (hu : FitU u) (hv : FitU v) (h : litU u = litU v) : u = v := by
  have h1 := key_of_uid hu
  have h2 := key_of_uid hv
  rw [h] at h1
  have := Try.lawU.inj h1 h2
  unfold valU at this
  cases u; cases v
  injection this with this
  injection this with this
  injection this with a b
  injection a with a
  injection b with b
  injection b with b
  exact Prod.ext a b
theorem litU_same {u v : Uid} (hu : FitU u) (hv : FitU v) : (litU u).sameKey (litU v) = decide (u = v) := by
  by_cases h : u = v
  · subst h
    rw [WideAt.sameKey_self (Try.lawU.key (key_of_uid hu))]; simp
  · rw [sameKey_ne fun e => h (litU_inj hu hv e)]; simp [h]

/-- what a map's datum holds, name by name -/
structure ReadsU (D : DataW Unit) (m : Uid → Option Nat) : Prop where
  has : ∀ u, FitU u → Maps.has D (litU u) = (m u).isSome
  at' : ∀ u i, FitU u → m u = some i → D.atKey (litU u) (.lit (.int .i64 0)) = .lit (.int .i64 i)
  keys : ∀ kl, Maps.has D kl = true → ∃ u, FitU u ∧ kl = litU u
/-- a block is a map from names to numbers -/
def MapU (w : World) (b : Nat) (m : Uid → Option Nat) (cnt : Nat) : Prop :=
  ∃ D n, w.ownsMap Try.prog 23 (plainElem Try.prog 3) b n D ∧ n ≤ 1073741824 ∧ ReadsU D m ∧ Maps.size D = cnt ∧ (∀ u i, m u = some i → i ≤ 1073741824)

theorem MapU.made (w : World) : MapU (w.alloc (.map #[] 0)) w.heap.size (fun _ => none) 0 :=
  ⟨_, 0, World.ownsMap_made _ _ _ _, by omega, ⟨fun _ _ => rfl, fun _ _ _ h => by simp at h, fun _ h => by simp [Maps.has] at h⟩, rfl, fun _ _ h => by simp at h⟩
theorem MapU.block {w w' : World} {b : Nat} {m : Uid → Option Nat} {cnt : Nat} (h : MapU w b m cnt) (hb : w'.heap[b]? = w.heap[b]?) : MapU w' b m cnt := by
  obtain ⟨D, n, ⟨es, clock, h1, h2⟩, h3⟩ := h
  exact ⟨D, n, ⟨es, clock, hb.trans h1, h2⟩, h3⟩
theorem MapU.lt {w : World} {b : Nat} {m : Uid → Option Nat} {cnt : Nat} (h : MapU w b m cnt) : b < w.heap.size := by
  obtain ⟨D, n, h1, _⟩ := h; exact h1.lt
theorem MapU.ext {w w' : World} {b : Nat} {m : Uid → Option Nat} {cnt : Nat} (h : MapU w b m cnt) (k : Ext w w') : MapU w' b m cnt := h.block (k.block _ h.lt)
theorem MapU.congr {w : World} {b : Nat} {m m' : Uid → Option Nat} {cnt : Nat} (h : MapU w b m cnt) (he : ∀ u, m u = m' u) : MapU w b m' cnt := by
  have : m = m' := funext he
  rw [← this]; exact h
theorem MapU.isMap {w : World} {b : Nat} {m : Uid → Option Nat} {cnt : Nat} (h : MapU w b m cnt) : ∃ es clock, w.heap[b]? = some (.map es clock) := by
  obtain ⟨D, n, ⟨es, clock, h1, _⟩, _⟩ := h; exact ⟨es, clock, h1⟩

section
variable {ops : Array Oper} {rest : List Oper} {o : Oper} {a : Act} {w : World} {Q : Exit → Act → World → Prop}

/-- 'v, ok := m[u]' -/
theorem wpList_lookup_uid (hg : o.guard = none) (x k : Operand) (hop : o.op = Op.lookup 87 x k true) (b : Nat) (m : Uid → Option Nat) (cnt : Nat) (hm : a.eval x = .map (some b)) (h : MapU w b m cnt) (u : Uid) (hu : FitU u) (hx : a.eval k = valU u)
    (bb : Bool) (hbb : (m u).isSome = bb) (hK : ∀ c : Nat, (∀ i, m u = some i → c = i) → c ≤ 1073741824 → wpList Try.prog ops Q rest (a.put o.dst (.tuple #[.int .i64 c, .bool bb])) w) : wpList Try.prog ops Q (o :: rest) a w := by
  subst hbb
  obtain ⟨D, n, hown, hn, hr, hc, hle⟩ := h
  refine wpList_lookup_own_ok_int w hg x k _ hop _ _ .i64 Try.lawU Try.underlying87 Try.underlying3 (Try.zeroI _) b n D hm hown _ (litU u) hx (key_of_uid hu) fun c hat hwc => ?_
  rw [hr.has u hu]
  cases hmu : m u with
  | none =>
    have h0 := atKey_of_not_has (D := D) (k := litU u) (by rw [hr.has u hu, hmu]; rfl) (.lit (.int .i64 0))
    rw [hat] at h0
    injection h0 with h0
    injection h0 with _ h0
    subst h0
    have := hK 0 (fun i hi => by rw [hmu] at hi; cases hi) (by omega)
    rw [hmu] at this
    exact this
  | some i =>
    have h0 := hr.at' u i hu hmu
    rw [hat] at h0
    injection h0 with h0
    injection h0 with _ h0
    subst h0
    have := hK i (fun j hj => by rw [hmu] at hj; exact Option.some.inj hj) (hle u i hmu)
    rw [hmu] at this
    exact this

/-- 'm[u] = i' -/
theorem wpList_update_uid (hg : o.guard = none) (x k v : Operand) (hop : o.op = Op.mapUpdate 87 x k v) (b : Nat) (m : Uid → Option Nat) (cnt : Nat) (hm : a.eval x = .map (some b)) (h : MapU w b m cnt) (hcnt : cnt ≤ 1048576) (u : Uid) (hu : FitU u) (hx : a.eval k = valU u)
    (i : Nat) (hi : i ≤ 1073741824) (hv : a.eval v = .int .i64 i) (hK : ∀ w', MapU w' b (fun y => if y = u then some i else m y) (cnt + if (m u).isSome then 0 else 1) → GrownBy w w' (some b) → wpList Try.prog ops Q rest (a.put o.dst undef) w') : wpList Try.prog ops Q (o :: rest) a w := by
  obtain ⟨D, n, hown, hn, hr, hc, hle⟩ := h
  -- a tighter bound: the entries are so many
  have hown' : w.ownsMap Try.prog 23 (plainElem Try.prog 3) b cnt D := by
    obtain ⟨es, clock, h1, h2, h3, rfl⟩ := hown
    refine ⟨es, clock, h1, h2, ?_, rfl⟩
    rw [← hc]
    simp only [Maps.size, length_sorted, List.length_map, Array.length_toList]; omega
  refine wpList_plain hg fun K' hK' => ?_
  obtain ⟨w', hrun, r1, r2⟩ := hown'.store (val := .int .i64 i) Try.lawU Try.underlying87 (by unfold maxLen; omega) (key_of_uid hu) (plainElem_int Try.underlying3 (WalkArith.wf_i64 (by omega)))
  have hdr : w.drawn ≤ w'.drawn := run_drawn _ _ _ _ hrun
  have hkl := Try.lawU.key (key_of_uid hu)
  unfold Oper.wp
  simp [execOp, hop, hm, hx, hv, hrun, Result.andThen]
  refine hK' _ _ (hK w' ⟨_, cnt + 1, r1, by omega, ⟨fun y hy => ?_, fun y j hy hj => ?_, fun kl hkl => ?_⟩, ?_, fun y j hj => ?_⟩ ⟨r2.grown, hdr⟩)
  · by_cases he : y = u
    · subst he
      rw [has_put_same hown.isMap hkl]; simp
    · rw [has_put_other fun e => he (litU_inj hy hu e), if_neg he, hr.has y hy]
  · by_cases he : y = u
    · subst he
      rw [if_pos rfl] at hj
      obtain rfl := Option.some.inj hj
      rw [atKey_put_same hown.isMap hkl]
    · rw [if_neg he] at hj
      rw [atKey_put_other fun e => he (litU_inj hy hu e), hr.at' y j hy hj]
  · by_cases he : kl = litU u
    · exact ⟨u, hu, he⟩
    · rw [has_put_other he] at hkl
      exact hr.keys kl hkl
  · rw [size_put (hown.tidy Try.lawU), hc, hr.has u hu]
    split <;> simp_all
  · dsimp only at hj
    by_cases he : y = u
    · rw [if_pos he] at hj
      obtain rfl := Option.some.inj hj
      exact hi
    · rw [if_neg he] at hj
      exact hle y j hj

/-- 'len(m)' -/
theorem wpList_len_uid (hg : o.guard = none) (x : Operand) (hop : o.op = Op.call { callee := .builtin .len, args := #[x], argTypes := #[87] }) (b : Nat) (m : Uid → Option Nat) (cnt : Nat) (hm : a.eval x = .map (some b)) (h : MapU w b m cnt)
    (hK : wpList Try.prog ops Q rest (a.put o.dst (.int .i64 cnt)) w) : wpList Try.prog ops Q (o :: rest) a w := by
  obtain ⟨D, n, hown, hn, hr, hc, hle⟩ := h
  refine wpList_plain hg fun K' hK' => ?_
  have hrun := hown.len (P := Try.prog) Try.underlying87 o.type
  unfold Oper.wp
  simp [execOp, hop, resolve, invoke, builtin, hm, hrun, Result.andThen, hc]
  exact hK' _ _ hK

/-- ranging over one: which names are still to come -/
def RangeU (w : World) (b r : Nat) (m : Uid → Option Nat) (left : Uid → Bool) (cnt : Nat) : Prop :=
  ∃ D n lf, w.ranges Try.prog 23 (plainElem Try.prog 3) b r n D lf cnt ∧ ReadsU D m ∧ (∀ u i, m u = some i → i ≤ 1073741824) ∧ (∀ u, FitU u → lf (litU u) = left u) ∧ ∀ kl, lf kl = true → ∃ u, FitU u ∧ kl = litU u

theorem RangeU.block {w w' : World} {b r : Nat} {m : Uid → Option Nat} {left : Uid → Bool} {cnt : Nat} (h : RangeU w b r m left cnt) (hb : w'.heap[b]? = w.heap[b]?) (hr : w'.heap[r]? = w.heap[r]?) : RangeU w' b r m left cnt := by
  obtain ⟨D, n, lf, ⟨es, clock, since, seen, c0, h1, h2, h3, h4, h5, h6⟩, h7⟩ := h
  exact ⟨D, n, lf, ⟨es, clock, since, seen, c0, hb.trans h1, h2, h3, h4, hr.trans h5, h6⟩, h7⟩
theorem RangeU.lt {w : World} {b r : Nat} {m : Uid → Option Nat} {left : Uid → Bool} {cnt : Nat} (h : RangeU w b r m left cnt) : b < w.heap.size ∧ r < w.heap.size := by
  obtain ⟨D, n, lf, h1, _⟩ := h; exact ⟨h1.owns.lt, h1.lt⟩
theorem RangeU.ext {w w' : World} {b r : Nat} {m : Uid → Option Nat} {left : Uid → Bool} {cnt : Nat} (h : RangeU w b r m left cnt) (k : Ext w w') : RangeU w' b r m left cnt := h.block (k.block _ h.lt.1) (k.block _ h.lt.2)
theorem RangeU.isIter {w : World} {b r : Nat} {m : Uid → Option Nat} {left : Uid → Bool} {cnt : Nat} (h : RangeU w b r m left cnt) : ∃ x y z, w.heap[r]? = some (.mapIter (some b) x y z) := by
  obtain ⟨D, n, lf, ⟨es, clock, since, seen, c0, h1, h2, h3, h4, h5, h6⟩, h7⟩ := h
  exact ⟨_, _, _, h5⟩
theorem RangeU.left_eq {w : World} {b r : Nat} {m : Uid → Option Nat} {left : Uid → Bool} {cnt : Nat} (h : RangeU w b r m left cnt) : w.rangeLeft b r = cnt := by
  obtain ⟨D, n, lf, h1, _⟩ := h; exact h1.left_eq

/-- 'range m' -/
theorem wpList_range_uid (hg : o.guard = none) (x : Operand) (hop : o.op = Op.range 87 x) (b : Nat) (m : Uid → Option Nat) (cnt : Nat) (hm : a.eval x = .map (some b)) (h : MapU w b m cnt) (r : Nat) (hr : r = w.heap.size)
    (hK : ∀ w', RangeU w' b r m (fun u => (m u).isSome) cnt → Ext w w' → w'.heap.size = w.heap.size + 1 → wpList Try.prog ops Q rest (a.put o.dst (.pointer (some ⟨r, 0, none⟩))) w') : wpList Try.prog ops Q (o :: rest) a w := by
  subst hr
  obtain ⟨D, n, hown, hn, hr, hc, hle⟩ := h
  refine wpList_plain hg fun K' hK' => ?_
  obtain ⟨w', hrun, r1, r2, r3⟩ := hown.range Try.lawU Try.underlying87
  have hdr : w.drawn ≤ w'.drawn := run_drawn _ _ _ _ hrun
  unfold Oper.wp
  simp [execOp, hop, hm, hrun, Result.andThen]
  exact hK' _ _ (hK w' ⟨D, n, _, hc ▸ r1, hr, hle, hr.has, hr.keys⟩ ⟨⟨r2.os, r2.tape, r2.output, r2.size, fun i hi => r2.block i hi (by simp)⟩, hdr⟩ r3)

/-- the step -/
theorem wpList_next_uid (hg : o.guard = none) (it : Operand) (hop : o.op = Op.next it false) (b r : Nat) (m : Uid → Option Nat) (left : Uid → Bool) (cnt : Nat) (hit : a.eval it = .pointer (some ⟨r, 0, none⟩)) (h : RangeU w b r m left cnt)
    (hDone : cnt = 0 → (∀ u, FitU u → left u = false) → wpList Try.prog ops Q rest (a.put o.dst (.tuple #[.bool false])) w)
    (hMore : ∀ (u : Uid) (i : Nat) (w' : World) (cnt' : Nat), FitU u → left u = true → m u = some i → i ≤ 1073741824 → RangeU w' b r m (fun y => left y && !decide (y = u)) cnt' → cnt' < cnt → GrownBy w w' (some r) → w'.heap.size = w.heap.size →
      (Instr.entry (.pointer (some ⟨r, 0, none⟩))).run Try.prog w' = .ok (.tuple #[valU u, .int .i64 i]) w' → wpList Try.prog ops Q rest (a.put o.dst (.tuple #[.bool true, valU u, .int .i64 i])) w') :
    wpList Try.prog ops Q (o :: rest) a w := by
  obtain ⟨D, n, lf, hrg, hr, hle, hl1, hl2⟩ := h
  refine wpList_plain hg fun K' hK' => ?_
  unfold Oper.wp
  rcases hrg.next Try.lawU o.type with ⟨h0, hl, hrun⟩ | ⟨key, v, kl, y, w', cnt', hkey, hlk, hv, hat, hrun, hrg', hlt, hgr, hsz, hen⟩
  · simp [execOp, hop, hit, hrun, Result.andThen]
    exact hK' _ _ (hDone h0 fun u hu => by rw [← hl1 u hu]; exact hl _)
  · have hdr : w.drawn ≤ w'.drawn := run_drawn _ _ _ _ hrun
    obtain ⟨u, rfl, hu, rfl⟩ := uid_of_key hkey
    obtain ⟨c, rfl, rfl, hwc⟩ := plainElem_int_inv Try.underlying3 hv
    have hhas : Maps.has D (litU u) = true := has_true_of_atKey hat
    rw [hr.has u hu] at hhas
    obtain ⟨i, hi⟩ := Option.isSome_iff_exists.1 hhas
    have h0 := hr.at' u i hu hi
    rw [hat] at h0
    injection h0 with h0
    injection h0 with _ h0
    subst h0
    simp [execOp, hop, hit, hrun, Result.andThen]
    refine hK' _ _ (hMore u i w' cnt' hu (by rw [← hl1 u hu]; exact hlk) hi (hle u i hi) ⟨D, n, _, hrg', hr, hle, fun y hy => ?_, fun kl hkl => hl2 kl ?_⟩ hlt ⟨hgr, hdr⟩ hsz hen)
    · rw [hl1 y hy, litU_same hy hu]
    · simp only [Bool.and_eq_true] at hkl; exact hkl.1
end
end Go.Proofs.Ytpkgkabcikmopaa
