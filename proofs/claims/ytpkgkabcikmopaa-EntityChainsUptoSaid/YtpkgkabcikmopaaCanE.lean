/-
  What the program's Canon of entities comes to. The conditions: the entities lie in memory as they should, none is nested deeper than a million.
-/
import Derived.Test.YtpkgkabcikmopaaUid
import Derived.Test.YtpkgkabcikmopaaRoundP
import Derived.Test.YtpkgkabcikmopaaSortPE
import Derived.Test.YtpkgkabcikmopaaCanon
import Derived.Test.YtpkgkabcikmopaaOne
import Derived.Test.YtpkgkabcikmopaaStage
namespace Go.Proofs.Ytpkgkabcikmopaa
open Go.RowKit

set_option maxRecDepth 100000 in
/-- is a parent missing? -/
theorem missing_ok (us : List Uid) (u : Uid) (hu : FitU u) (w : World) (bA B n : Nat) (h1 : OneBox w bA (.map (some B)) 87) (h2 : MapU w B (idx us) n) :
    Calls Try.prog 65 (#[valU u] ++ #[.pointer (some ⟨bA, 0, none⟩)]) w fun e w' => e = .returned (.bool (!(idx us u).isSome)) ∧ Ext w w' := by
  have HX := Lib.hid ((Ext.refl w).alloc (.cells #[.string u.1, .string u.2] 23))
  have c0 := (h1.block (HX.out.block _ (Blk_lt h1))).cell
  have HM := Lib.hid (h2.ext HX.out)
  have HU := Lib.hid hu
  clear h1 h2 hu
  obtain ⟨bb, hbb⟩ : ∃ bb, (idx us u).isSome = bb := ⟨_, rfl⟩
  have HB := Lib.hid hbb
  rw [hbb]
  clear hbb
  show Calls Try.prog 65 #[.agg #[.string u.1, .string u.2], .pointer (some ⟨bA, 0, none⟩)] w _
  go_enter Try.func65, Try.ntmps65
  go_wp2_with (at_lookup; refine wpList_lookup_uid rfl _ _ rfl B _ _ rfl HM.out u HU.out rfl bb HB.out ?_; intro c hc hcl; clear hc)
  go_ret
  exact ⟨rfl, HX.out⟩

set_option maxRecDepth 100000 in
/-- the order of entities -/
theorem byUid_ok (S : Nat → Prop) (a b : Ent) (w : World) (ca cb : List Value) (ha : entR.At S w a ca) (hb : entR.At S w b cb) :
    Calls Try.prog 71 (#[.agg ca.toArray, .agg cb.toArray] ++ #[]) w fun e w' => e = .returned (.int .i64 (cmpE a b)) ∧ Ext w w' := by
  obtain ⟨A1, l1, c1, k1, q1, n1, t1, u1, v1, A2, l2, c2, A3, l3, c3, rfl⟩ := ent_shape ha
  obtain ⟨A4, l4, c4, k2, q2, n2, t2, u2, v2, A5, l5, c5, A6, l6, c6, rfl⟩ := ent_shape hb
  clear ha hb
  show Calls Try.prog 71 #[_, _] w _
  go_enter Try.func71, Try.ntmps71
  go_wp2_with (go_at_call 63; refine (orderU_ok a.uid b.uid _).mono ?_; rintro e w' ⟨rfl, hx⟩; have HX := Lib.hid hx; clear hx)
  go_ret
  exact ⟨rfl, (((Ext.refl w).alloc _).alloc _).trans HX.out⟩

/-! ### what is taken so far -/
theorem onesE_snoc {us : List Uid} {x : Ent} (h0 : (oneE us x).2 = 0) : ∀ {l ys : List Ent}, onesE us l = (ys, 0) → onesE us (l ++ [x]) = (ys ++ [(oneE us x).1], 0)
  | [], ys, h => by simp [onesE] at h; subst h; simp [onesE, h0]
  | y :: r, ys, h => by
    simp only [onesE] at h
    split at h
    · rename_i h1; simp at h; exact absurd h.2 h1
    · split at h
      · rename_i h1; simp at h; exact absurd h.2 h1
      · rename_i h1 h2
        simp at h1 h2 h
        subst h
        have := onesE_snoc h0 (l := r) (ys := (onesE us r).1) (by rw [← h2])
        simp [onesE, h1, this]
theorem onesE_bad {us : List Uid} {x : Ent} (h0 : (oneE us x).2 ≠ 0) : ∀ {l r ys : List Ent}, onesE us l = (ys, 0) → onesE us (l ++ x :: r) = ([], (oneE us x).2)
  | [], _, _, _ => by simp [onesE, h0]
  | y :: l, r, ys, h => by
    simp only [onesE] at h
    split at h
    · rename_i h1; simp at h; exact absurd h.2 h1
    · split at h
      · rename_i h1; simp at h; exact absurd h.2 h1
      · rename_i h1 h2
        simp at h1 h2
        have := onesE_bad h0 (l := l) (r := r) (ys := (onesE us l).1) (by rw [← h2])
        simp [onesE, h1, this, h0]
theorem onesE_length {us : List Uid} : ∀ {l : List Ent}, (onesE us l).2 = 0 → (onesE us l).1.length = l.length
  | [], _ => rfl
  | y :: r, h => by
    simp only [onesE] at h ⊢
    split at h
    · rename_i h1; exact absurd h h1
    · split at h
      · rename_i h1; exact absurd h h1
      · rename_i h1 h2
        simp at h2
        rw [if_neg h1, if_neg (by simpa using h2)]
        simp [onesE_length h2]
theorem oneE_uid (us : List Uid) (x : Ent) : (oneE us x).1.uid = x.uid := by
  unfold oneE
  split
  · rfl
  · split
    · rfl
    · split <;> rfl
theorem onesE_uids {us : List Uid} : ∀ {l : List Ent}, (onesE us l).2 = 0 → (onesE us l).1.map Ent.uid = l.map Ent.uid
  | [], _ => rfl
  | y :: r, h => by
    simp only [onesE] at h ⊢
    split at h
    · rename_i h1; exact absurd h h1
    · split at h
      · rename_i h1; exact absurd h h1
      · rename_i h1 h2
        simp at h2
        rw [if_neg h1, if_neg (by simpa using h2)]
        simp only [List.map_cons, onesE_uids h2]
        rw [oneE_uid]
theorem oneE_bad_kind {us : List Uid} {x : Ent} (h : x.av.kind ≠ 6) : (oneE us x).2 = 1 := by simp [oneE, h]
theorem oneE_bad_value {us : List Uid} {x : Ent} (h : x.av.kind = 6) (hb : x.av.canon.2 ≠ 0) : (oneE us x).2 = x.av.canon.2 := by simp [oneE, h, hb]
theorem oneE_bad_parent {us : List Uid} {x : Ent} (h : x.av.kind = 6) (hb : x.av.canon.2 = 0) (hp : x.ps.any (fun p => !(idx us p).isSome) = true) : (oneE us x).2 = 20 := by
  have : x.ps.all (fun p => (idx us p).isSome) = false := by
    rw [← Bool.not_eq_true, List.all_eq_true]
    intro hall
    obtain ⟨p, hp1, hp2⟩ := List.any_eq_true.1 hp
    rw [hall p hp1] at hp2; cases hp2
  simp only [oneE, h, hb, this]; rfl
theorem oneE_good {us : List Uid} {x : Ent} (h : x.av.kind = 6) (hb : x.av.canon.2 = 0) (hp : x.ps.any (fun p => !(idx us p).isSome) = false) : oneE us x = (⟨x.uid, sortU ordU x.ps, x.av.canon.1⟩, 0) := by
  have : x.ps.all (fun p => (idx us p).isSome) = true := by
    rw [List.all_eq_true]
    intro p hp1
    have := (List.any_eq_false.1 hp) p hp1
    cases hi : idx us p with
    | none => rw [hi] at this; simp at this
    | some i => rfl
  simp only [oneE, h, hb, this]; rfl

/-- sorted and without repeats -/
theorem dedupU_sorted {l l' : List Uid} (hp : l'.Perm l) (hs : l'.Pairwise fun a b => ordU a b ≤ 0) : dedup ordU l' = sortU ordU l :=
  dedup_sorted GoodAt.ordU (P := fun _ => True) (fun _ _ _ _ h => ordU_eq h) (fun _ _ => trivial) hp hs
/-- of entities with names of their own -/
theorem sortedE {l l' : List Ent} (hn : (l.map Ent.uid).Nodup) (hp : l'.Perm l) (hs : l'.Pairwise fun a b => cmpE a b ≤ 0) : l' = sortU cmpE l := by
  have hu : ∀ x y : Ent, x ∈ l → y ∈ l → cmpE x y = 0 → x = y := fun x y hx hy h => by
    have he := ordU_eq h
    obtain ⟨i, hi⟩ := List.mem_iff_getElem?.1 hx
    obtain ⟨j, hj⟩ := List.mem_iff_getElem?.1 hy
    have h1 := idx_of_get hn (i := i) (u := x.uid) (by simp [hi])
    have h2 := idx_of_get hn (i := j) (u := x.uid) (by simp [hj, he])
    rw [h1] at h2
    obtain rfl := Option.some.inj h2
    rw [hi] at hj
    exact Option.some.inj hj
  have hd : dedup cmpE l' = sortU cmpE l := dedup_sorted GoodAt.cmpE (P := fun x => x ∈ l) hu (fun _ h => h) hp hs
  rw [← hd]
  have hn' : (l'.map Ent.uid).Nodup := (hp.map Ent.uid).nodup_iff.2 hn
  cases l' with
  | nil => rfl
  | cons x r =>
    have := dedup_apart (c := cmpE) (l := x :: r) (k := r.length) (by simp) fun i a b hi ha hb h0 => by
      have he := ordU_eq h0
      have h1 := idx_of_get hn' (i := i) (u := a.uid) (by rw [List.getElem?_map, ha]; rfl)
      have h2 := idx_of_get hn' (i := i + 1) (u := a.uid) (by rw [List.getElem?_map, hb]; simp [he])
      rw [h1] at h2
      have := Option.some.inj h2
      omega
    rw [List.take_of_length_le (by simp)] at this
    exact this.symm

/-- a row of entities in new memory, and an error -/
def EntsErr (l : List Ent) (er : Int) (w : World) (e : Ending) (w' : World) : Prop :=
  ∃ v, e = .returned (.tuple #[v, .int .i64 er]) ∧ (∃ xs, w'.ownsRow w.heap.size 60 11 v l.length xs ∧ entR.Flat (Made w.heap.size w' v) w' l xs) ∧ Ext w w'
theorem EntsErr.none {er : Int} {w w' : World} (h : Ext w w') : EntsErr [] er w (.returned (.tuple #[.slice none 0 0, .int .i64 er])) w' := ⟨_, rfl, ⟨[], World.ownsRow_nil _ _ _ _, rfl⟩, h⟩

theorem Try.info60 : (Try.prog.info? 60).map (fun i => (i.zero, i.size, i.bytes)) = some (some (.agg #[.string ByteArray.empty, .string ByteArray.empty, .slice none 0 0, .int .i64 0, .bool false, .int .i64 0, .string ByteArray.empty, .string ByteArray.empty, .string ByteArray.empty, .slice none 0 0, .slice none 0 0]), 11, 176) := by kernel_rfl
theorem Try.enter65 : ∀ args w, (callFunc 65 args).run Try.prog w = .ok (.enter 65 args) w := fun _ _ => by kernel_rfl
theorem Try.enter71 : ∀ args w, (callFunc 71 args).run Try.prog w = .ok (.enter 71 args) w := fun _ _ => by kernel_rfl

theorem lst1 {α : Type} {l : List α} (h : l.length = 1) : ∃ a, l = [a] := by
  match l, h with
  | [_], _ => exact ⟨_, rfl⟩
theorem lst2 {α : Type} {l : List α} (h : l.length = 2) : ∃ a b, l = [a, b] := by
  match l, h with
  | [_, _], _ => exact ⟨_, _, rfl⟩
theorem lst3 {α : Type} {l : List α} (h : l.length = 3) : ∃ a b c, l = [a, b, c] := by
  match l, h with
  | [_, _, _], _ => exact ⟨_, _, _, rfl⟩
theorem lst4 {α : Type} {l : List α} (h : l.length = 4) : ∃ a b c d, l = [a, b, c, d] := by
  match l, h with
  | [_, _, _, _], _ => exact ⟨_, _, _, _, rfl⟩
theorem lst9 {α : Type} {l : List α} (h : l.length = 9) : ∃ a0 a1 a2 a3 a4 a5 a6 a7 a8, l = [a0, a1, a2, a3, a4, a5, a6, a7, a8] := by
  match l, h with
  | [_, _, _, _, _, _, _, _, _], _ => exact ⟨_, _, _, _, _, _, _, _, _, rfl⟩

theorem Try.field60 (O : Nat) : ∀ w, (Instr.fieldAt 60 (.pointer (some ⟨O, 0, none⟩)) 0).run Try.prog w = .ok (.pointer (some ⟨O, 0, none⟩)) w := by
  intro w; simp [Instr.fieldAt, go_sem]
theorem Try.build57 (v0 v1 v2 v3 v4 v5 v6 v7 v8 v9 va : Value) : ∀ w, (Instr.buildSlice 57 1 #[(0, .agg #[v0, v1, v2, v3, v4, v5, v6, v7, v8, v9, va])]).run Try.prog w = .ok (.slice (some ⟨w.heap.size, 0, none⟩) 1 1) (w.alloc (.cells #[v0, v1, v2, v3, v4, v5, v6, v7, v8, v9, va] 60)) := by
  intro w; simp [Instr.buildSlice, go_sem]
theorem Try.built60 (s t : ByteArray) (A : Option Addr) (n c : Nat) (r0 : Int) (r1 : Bool) (r2 : Int) (r3 r4 r5 : ByteArray) (r6 : Option Addr) (r7 r8 : Nat) (r9 : Option Addr) (ra rb : Nat) : Try.prog.built 60 [(0, .agg #[.string s, .string t]), (1, .slice A n c), (2, .agg #[.int .i64 r0, .bool r1, .int .i64 r2, .string r3, .string r4, .string r5, .slice r6 r7 r8, .slice r9 ra rb])] =
    some #[.string s, .string t, .slice A n c, .int .i64 r0, .bool r1, .int .i64 r2, .string r3, .string r4, .string r5, .slice r6 r7 r8, .slice r9 ra rb] := by kernel_rfl
theorem exec_build_agg {P : Program} {o : Oper} {a : Act} {w : World} (t : TypeId) (parts : Array (Nat × Operand)) (ho : o.op = .build t parts) {vals : List (Nat × Value)} (hv : (parts.map fun (i, x) => (i, a.eval x)).toList = vals) {cells : Array Value}
    (hb : P.built t vals = some cells) : (execOp a.eval o).run P w = .ok (.value (.agg cells)) w := by
  unfold execOp
  simp only [ho, Sem.run_bind, run_build w t _ cells (by rw [hv]; exact hb), Result.andThen_ok]
  rfl

/-- the cells of an entity that is laid -/
def entCells (u : Uid) (v : Value) (av : List Value) : List Value := .string u.1 :: .string u.2 :: v :: av
/-- its parents, sorted and without repeats -/
def CompE (cB : Nat) (w7 : World) (d : List Uid) (v : Value) (W : World) : Prop :=
  Below cB w7 W ∧ w7.drawn ≤ W.drawn ∧ ∃ xs', W.ownsRow cB 23 2 v d.length xs' ∧ uidR.Flat (fun _ => True) W d xs'
/-- one entity more: how far -/
def StageE (cB : Nat) (w7 : World) (d : List Uid) (u : Uid) (av : List Value) (base : Nat) (out : Value) (n : Nat) (xs : List Value) : List Value → World → Prop
  | [], W => Ext w7 W
  | [v1], W => CompE cB w7 d v1 W
  | [v1, e], W => CompE cB w7 d v1 W ∧ e = .agg (entCells u v1 av).toArray
  | [v1, e, bl], W => ∃ W1, CompE cB w7 d v1 W1 ∧ e = .agg (entCells u v1 av).toArray ∧ bl = .slice (some ⟨W1.heap.size, 0, none⟩) 1 1 ∧ W = W1.alloc (.cells (entCells u v1 av).toArray 60)
  | [v1, _, _, v2], W => ∃ W1, CompE cB w7 d v1 W1 ∧ W.ownsRow base 60 11 v2 (n + 1) (xs ++ entCells u v1 av) ∧ GrownBy (W1.alloc (.cells (entCells u v1 av).toArray 60)) W out.ownBlock ∧
      (v2.ownBlock = out.ownBlock ∨ v2.ownBlock = some (W1.alloc (.cells (entCells u v1 av).toArray 60)).heap.size)
  | _, _ => False

theorem ownsRow_blocks {w w' : World} {base : Nat} {e : TypeId} {size n : Nat} {v : Value} {xs : List Value} (h : w.ownsRow base e size v n xs) (k : ∀ b, v.ownBlock = some b → w'.heap[b]? = w.heap[b]?) : w'.ownsRow base e size v n xs := by
  obtain ⟨h1, h2⟩ := h
  refine ⟨h1, ?_⟩
  rcases h2 with h2 | ⟨g, cap, cur, hv, hg, hh, q⟩
  · exact .inl h2
  · exact .inr ⟨g, cap, cur, hv, hg, (k g (by rw [hv]; rfl)).trans hh, q⟩
theorem StageE.old {cB : Nat} {w7 : World} {d : List Uid} {u : Uid} {av : List Value} {base : Nat} {out : Value} {n : Nat} {xs vs : List Value} {W : World} (h : StageE cB w7 d u av base out n xs vs W) {c1 : Nat} (hb : ∀ b, out.ownBlock = some b → b < c1) (hc : cB ≤ w7.heap.size) :
    ∀ b, c1 ≤ b → b < cB → W.heap[b]? = w7.heap[b]? := by
  intro b h1 h2
  match vs, h with
  | [], h => exact (show Ext w7 W from h).block b (by omega)
  | [v1], h => exact h.1.block b h2
  | [v1, e], h => exact h.1.1.block b h2
  | [v1, e, bl], ⟨W1, hk, _, _, e'⟩ =>
    subst e'
    rw [heap_alloc_old _ _ (Nat.lt_of_lt_of_le (Nat.lt_of_lt_of_le h2 hc) hk.1.size)]
    exact hk.1.block b h2
  | [v1, e, bl, v2], ⟨W1, hk, _, hg, _⟩ =>
    have h3 : b < W1.heap.size := Nat.lt_of_lt_of_le (Nat.lt_of_lt_of_le h2 hc) hk.1.size
    rw [hg.block b (by simp; omega) (fun e => by have := hb b e.symm; omega), heap_alloc_old _ _ h3]
    exact hk.1.block b h2
  | _ :: _ :: _ :: _ :: _ :: _, h => exact h.elim

set_option maxRecDepth 100000 in
set_option maxHeartbeats 1600000 in
theorem canE_ok (S : Nat → Prop) (l : List Ent) (v : Value) (w : World) (hS : ∀ b, S b → b < w.heap.size) (hl : entR.RowsAt S w l v) (hlen : l.length ≤ 1048576) (hps : ∀ e ∈ l, e.ps.length ≤ 1048576) (hdep : ∀ e ∈ l, e.av.dep ≤ 1000000) :
    Calls Try.prog 37 #[v] w (EntsErr (canonE l).1 (canonE l).2 w) := by
  have hl' := hl
  obtain ⟨A, cap, rfl, ⟨hl0, hl1, hl2⟩, hlr⟩ := hl
  rw [LIM_eq] at hl0
  rw [maxLen_eq] at hl2
  have HS := Lib.hid hS
  have HL := Lib.hid hlr
  have HL' := Lib.hid hl'
  have HP := Lib.hid hps
  have HDp := Lib.hid hdep
  have hml : (l.map Ent.uid).length = l.length := List.length_map _
  have Hml := Lib.hid hml
  have hdl := dis_le (l.map Ent.uid) l.length
  have hC : canonE l = canonE l := rfl
  conv at hC => rhs; unfold canonE
  have HC := Lib.hid hC
  generalize canonE l = res at *
  clear hS hlr hl' hps hdep hml hC
  obtain ⟨i0, hi, hz0, hz1, hz2⟩ := info_parts Try.info60
  go_enter Try.func37, Try.ntmps37
  go_wp2_with fail
  refine (places_ok S l _ _ HS.out HL'.out hlen).mono ?_
  rintro e w1 ⟨B, rfl, hm, hb, hx⟩
  have HM := Lib.hid hm
  have HX1 := Lib.hid hx
  have HB := Lib.hid hb
  clear hm hx hb
  by_cases hlong : 4096 < l.length
  · have hlz : (4096 : Int) < l.length := by omega
    go_wp2_with fail
    go_ret2
    rw [HC.out, if_pos hlong]
    exact EntsErr.none (HX1.out.alloc _)
  have hlz : ¬ (4096 : Int) < l.length := by omega
  have HA := Lib.hid (OneBox.new w1 (.map (some B)) 87)
  have HX2 := Lib.hid (HX1.out.alloc (.cells #[.map (some B)] 87))
  have HM2 := Lib.hid (HM.out.ext ((Ext.refl w1).alloc (.cells #[.map (some B)] 87)))
  have c0 := HA.out.cell
  by_cases htw : dis (l.map Ent.uid) l.length < l.length
  · go_wp2_with (refine wpList_len_uid rfl _ rfl B _ _ rfl HM2.out ?_)
    go_ret2
    rw [HC.out, if_neg hlong, if_pos (fun hn => by have := dis_nodup hn; rw [Hml.out] at this; omega)]
    exact EntsErr.none HX2.out
  have hnd := nodup_of_dis (us := l.map Ent.uid) (by rw [Hml.out]; exact htw)
  have HN := Lib.hid hnd
  have Hlong := Lib.hid hlong
  clear hnd hdl hlong
  go_wp2_with (refine wpList_len_uid rfl _ rfl B _ _ rfl HM2.out ?_)
  go_loopw [5, 26] (fun u i wr => ∃ k : Nat, k ≤ l.length ∧ i = .int .i64 k ∧ Hid (Ext (w1.alloc (.cells #[.map (some B)] 87)) wr) ∧ Hid (∃ ys xs, onesE (l.map Ent.uid) (l.take k) = (ys, 0) ∧ wr.ownsRow (w1.heap.size + 1) 60 11 u ys.length xs ∧ entR.Flat (Made (w1.heap.size + 1) wr u) wr ys xs)) (fun _ i _ => l.length - (intOf i).toNat)
  case atStart => exact ⟨0, Nat.zero_le _, rfl, Lib.hid (Ext.refl _), Lib.hid ⟨[], [], rfl, World.ownsRow_nil _ _ _ _, rfl⟩⟩
  case round =>
    obtain ⟨k, hk, rfl, HXr, HO⟩ := hrel
    have HXw := Lib.hid (HX2.out.trans HXr.out)
    by_cases hlt : k < l.length
    · obtain ⟨b, o, rfl, hSb, hrow⟩ := HL.out (by omega)
      obtain ⟨x, hx⟩ : ∃ x, l[k]? = some x := ⟨_, List.getElem?_eq_getElem hlt⟩
      obtain ⟨cs, hca, hxa⟩ := hrow k x hx
      have Hca := Lib.hid (hca.alike hSb (Alike.of_ext HXw.out HS.out))
      have Hx := Lib.hid hx
      have Hxa := Lib.hid (entR.alike hxa (Alike.of_ext HXw.out HS.out))
      obtain ⟨A1, l1, c1, q1, q2, q3, q4, q5, q6, A2, l2, c2, A3, l3, c3, rfl⟩ := ent_shape hxa
      have hkind : x.av.kind = q1 := by
        obtain ⟨pv, acs, e, _, _, hat⟩ := hxa
        injection e with _ e
        injection e with _ e
        injection e with _ e
        subst e
        cases hv : x.av with
        | mk kd bo n t ut ui items names =>
          rw [hv] at hat
          unfold Val.At at hat
          obtain ⟨_, _, _, e, _⟩ := hat
          injection e with e _
          injection e with _ e
          exact e.symm
      have HK := Lib.hid hkind
      clear hx hxa hca hrow hSb hkind
      by_cases hk6 : q1 = 6
      · subst hk6
        have Hbox := Lib.hid (heap_alloc_new wr (.cells #[.string x.uid.1, .string x.uid.2, .slice A1 l1 c1, .int .i64 6, .bool q2, .int .i64 q3, .string q4, .string q5, .string q6, .slice A2 l2 c2, .slice A3 l3 c3] 60))
        have HXb := Lib.hid ((Ext.refl wr).alloc (.cells #[.string x.uid.1, .string x.uid.2, .slice A1 l1 c1, .int .i64 6, .bool q2, .int .i64 q3, .string q4, .string q5, .string q6, .slice A2 l2 c2, .slice A3 l3 c3] 60))
        have HSr := Lib.hid (show ∀ b, S b → b < wr.heap.size from fun b hb => Nat.lt_of_lt_of_le (HS.out b hb) HXw.out.size)
        have hparts := Hxa.out
        obtain ⟨pv, acs, e, hfu, hpr, hat⟩ := hparts
        injection e with _ e
        injection e with _ e
        injection e with e1 e
        subst e1 e
        have HFu := Lib.hid hfu
        have HPr := Lib.hid hpr
        have HAt := Lib.hid hat
        clear hfu hpr hat
        go_wp2_with (first | refine wpList_load_cells rfl 60 _ rfl b (o + k * 11) rfl Try.agg60 Try.size60 rfl Hca.out ?_)
        refine (canon_okP x.av S _ [_, _, _, _, _, _, _, _] (HDp.out x (List.mem_of_getElem? Hx.out)) (fun b hb => Nat.lt_of_lt_of_le (HSr.out b hb) HXb.out.size) (HAt.out.alike (Alike.of_ext HXb.out HSr.out))).mono ?_
        rintro e w3 ⟨cs3, rfl, hat3, hx3⟩
        have HX3 := Lib.hid (HXb.out.trans hx3)
        have HX3' := Lib.hid hx3
        have HA3 := Lib.hid hat3
        clear hx3 hat3
        obtain ⟨r0, r1, r2, r3, r4, r5, r6, r7, r8, r9, ra, rb, rfl⟩ := HA3.out.shape
        by_cases hbv : x.av.canon.2 = 0
        · have t7 : (x.av.canon.2 != 0) = false := by simpa using hbv
          have Hbv := Lib.hid hbv
          have HB8 := Lib.hid (heap_alloc_new w3 (.cells #[.int .i64 r0, .bool r1, .int .i64 r2, .string r3, .string r4, .string r5, .slice r6 r7 r8, .slice r9 ra rb] 27))
          have HX8 := Lib.hid ((Ext.refl w3).alloc (.cells #[.int .i64 r0, .bool r1, .int .i64 r2, .string r3, .string r4, .string r5, .slice r6 r7 r8, .slice r9 ra rb] 27))
          have HB7 := Lib.hid ((HX8.out.block _ (Nat.lt_of_lt_of_le (by simp) HX3'.out.size)).trans ((HX3'.out.block _ (Blk_lt Hbox.out)).trans Hbox.out))
          have e2 := cell_of_row _ _ 2 _ _ _ HB7.out
          simp only [List.getElem?_toArray, List.getElem?_cons_succ, List.getElem?_cons_zero] at e2
          clear hbv
          have HBw := Lib.hid (show ∀ b, S b → b < (w3.alloc (.cells #[.int .i64 r0, .bool r1, .int .i64 r2, .string r3, .string r4, .string r5, .slice r6 r7 r8, .slice r9 ra rb] 27)).heap.size from fun b hb => Nat.lt_of_lt_of_le (HSr.out b hb) (Nat.le_trans HX3.out.size HX8.out.size))
          have HPr3 := Lib.hid (HPr.out.alike (Alike.of_ext (HX3.out.trans HX8.out) HSr.out))
          have hcf := containsFunc_okU 65 #[.pointer (some ⟨w1.heap.size, 0, none⟩)] (fun p => !(idx (l.map Ent.uid) p).isSome) S x.ps (.slice A1 l1 c1) _ Try.enter65 HBw.out HPr3.out (fun p _ hp W hW => missing_ok (l.map Ent.uid) p hp W w1.heap.size B (dis (l.map Ent.uid) l.length)
            (HA.out.block ((((HXr.out.trans HX3.out).trans HX8.out).trans hW).block _ (Blk_lt HA.out))) (HM2.out.ext (((HXr.out.trans HX3.out).trans HX8.out).trans hW)))
          cases hany : x.ps.any (fun p => !(idx (l.map Ent.uid) p).isSome) with
          | true =>
            rw [hany] at hcf
            have HCf := Lib.hid hcf
            have hbad : onesE (l.map Ent.uid) l = ([], 20) := by
              obtain ⟨ys, xs, h1, _, _⟩ := HO.out
              have hb := oneE_bad_parent (us := l.map Ent.uid) HK.out Hbv.out hany
              have := onesE_bad (by rw [hb]; decide) (r := l.drop (k + 1)) h1
              rwa [take_drop_of Hx.out, hb] at this
            have Hbad := Lib.hid hbad
            clear hcf hbad hany
            go_wp2_with (go_at_call 66; refine HCf.out.mono ?_; rintro e w5 ⟨rfl, hx5⟩; have HX5 := Lib.hid hx5; clear hx5)
            go_ret2
            rw [HC.out, if_neg Hlong.out, if_neg (fun h => h HN.out), Hbad.out, if_pos (by decide)]
            exact EntsErr.none (((HXw.out.trans HX3.out).trans HX8.out).trans HX5.out)
          | false =>
            rw [hany] at hcf
            have HCf := Lib.hid hcf
            have Hany := Lib.hid hany
            clear hcf hany
            go_wp2_with (go_at_call 66; refine HCf.out.mono ?_; rintro e w5 ⟨rfl, hx5⟩; have HX5 := Lib.hid hx5; clear hx5; have e3 := cell_of_row _ _ 2 _ _ _ ((HX5.out.block _ (Blk_lt HB7.out)).trans HB7.out); simp only [List.getElem?_toArray, List.getElem?_cons_succ, List.getElem?_cons_zero] at e3)
            have HX35 := Lib.hid ((HX3.out.trans HX8.out).trans HX5.out)
            have HPr5 := Lib.hid (HPr.out.alike (Alike.of_ext HX35.out HSr.out))
            have hS5 : ∀ b, S b → b < w5.heap.size := fun b hb => Nat.lt_of_lt_of_le (HSr.out b hb) HX35.out.size
            refine (cloneU_ok S x.ps _ w5 HPr5.out).mono ?_
            rintro e w6 ⟨v6, xs6, rfl, ho6, hf6, hx6⟩
            have Ho6 := Lib.hid ho6
            have Hf6 := Lib.hid hf6
            have HX6 := Lib.hid hx6
            clear hS5 ho6 hf6 hx6 e2 e3 HCf
            obtain ⟨A6, c6, rfl⟩ := own_shape Ho6.out
            have hl6 : x.ps.length ≤ LIM := by have := HP.out x (List.mem_of_getElem? Hx.out); rw [LIM_eq]; omega
            have hsort := uidR.sort_ok Go.Proofs.Try.sortU 23 Try.agg23 Try.size23 ordU GoodAt.ordU 63 #[] Try.enterOrdU (fun _ => False) w5.heap.size w6 (.slice A6 x.ps.length c6) x.ps xs6 (fun w1 y z cy cz _ _ hy hz => by
              obtain ⟨rfl, _⟩ := hy
              obtain ⟨rfl, _⟩ := hz
              exact orderU_ok y z w1) (fun b hb => hb.elim) Ho6.out (Hf6.out _ _) hl6
            have HSo := Lib.hid (show Calls Try.prog 68 #[.slice A6 x.ps.length c6, .func (.func 63) #[] #[]] w6 _ from hsort)
            clear hsort hl6
            go_wp2_with fail
            refine HSo.out.mono ?_
            rintro e w7 ⟨rfl, l7, xs7, hp7, hs7, ho7, hf7, hb7, hd7, hg7⟩
            have Hp7 := Lib.hid hp7
            have Hs7 := Lib.hid hs7
            have Ho7 := Lib.hid ho7
            have Hf7 := Lib.hid hf7
            have HX7 : Hid (Ext w5 w7) := Lib.hid (ext_apart HX6.out hg7 fun b e => (Ho6.out.lt b e).1)
            clear hp7 hs7 ho7 hf7 hb7 hd7 hg7 HSo
            go_wp2_with fail
            obtain ⟨ys, xs, hcans, hown, hflat⟩ := HO.out
            have Hc := Lib.hid hcans
            have Ho := Lib.hid hown
            have Hf := Lib.hid hflat
            have hyl : ys.length = k := by
              have h1 := onesE_length (us := l.map Ent.uid) (l := l.take k) (by rw [hcans])
              rw [hcans] at h1
              simpa [List.length_take, Nat.min_eq_left hk] using h1
            have Hyl := Lib.hid hyl
            have HX57 := Lib.hid (HX35.out.trans HX7.out)
            have hdd : dedup ordU l7 = sortU ordU x.ps := dedupU_sorted Hp7.out Hs7.out
            have Hdd := Lib.hid hdd
            have hp7l : l7.length = x.ps.length := Hp7.out.length_eq
            have Hp7l := Lib.hid hp7l
            have hpl := HP.out x (List.mem_of_getElem? Hx.out)
            have Hpl := Lib.hid hpl
            have hw35 : wr.heap.size < w5.heap.size ∧ w3.heap.size < w5.heap.size ∧ w5.heap.size ≤ w7.heap.size := by
              have h1 := (Blk_lt HB8.out)
              have h2 := HX5.out.size
              have h3 := Blk_lt HB7.out
              exact ⟨by omega, by omega, HX7.out.size⟩
            have Hw35 := Lib.hid hw35
            have Hb7 := Lib.hid ((HX7.out.block _ (by exact hw35.1)).trans ((HX5.out.block _ (Blk_lt HB7.out)).trans HB7.out))
            have Hb8 := Lib.hid ((HX7.out.block _ (by exact hw35.2.1)).trans ((HX5.out.block _ (Blk_lt HB8.out)).trans HB8.out))
            clear hcans hown hflat hyl hdd hp7l hpl hw35 HO HPr3 HPr5
            refine staged_region 9 [4, 6, 7, 8] [u5, .pointer (some ⟨wr.heap.size, 0, none⟩), .agg #[.string x.uid.1, .string x.uid.2], .slice A6 x.ps.length c6, undef, .agg #[.int .i64 r0, .bool r1, .int .i64 r2, .string r3, .string r4, .string r5, .slice r6 r7 r8, .slice r9 ra rb], undef, undef, undef]
              (StageE w5.heap.size w7 (sortU ordU x.ps) x.uid [.int .i64 r0, .bool r1, .int .i64 r2, .string r3, .string r4, .string r5, .slice r6 r7 r8, .slice r9 ra rb] (w1.heap.size + 1) u5 ys.length xs) (by kernel_rfl) (by kernel_rfl) (by kernel_rfl) (by kernel_rfl)
              ⟨⟨rfl, rfl, rfl, Nat.le_refl _, fun _ _ => rfl⟩, Nat.le_succ _⟩ (fun i op hi hn ho vs W a hRR hold hat => ?_) (fun k' i op hk ho vs W a hvl hRR hold hat Q' K hK => ?_) ?_
            · have hbw := hRR.old (c1 := wr.heap.size) (fun b hb => (Ho.out.lt b hb).2) Hw35.out.2.2
              rcases (by simp at hn; omega : i = 0 ∨ i = 1 ∨ i = 2 ∨ i = 3 ∨ i = 5) with rfl | rfl | rfl | rfl | rfl <;> obtain rfl := Option.some.inj ho
              · exact exec_move rfl (hold 5 (by kernel_rfl))
              · exact exec_field _ _ _ rfl (hold 7 (by kernel_rfl)) (Try.field60 wr.heap.size)
              · exact exec_load_cells _ _ rfl wr.heap.size 0 (hat 1 54 (by omega) (by kernel_rfl) (by kernel_rfl)) (cs := [.string x.uid.1, .string x.uid.2]) Try.agg23 Try.size23 rfl (fun j v hj => by
                  rw [cell_of_row _ _ _ _ _ _ ((hbw _ (Nat.le_refl _) Hw35.out.1).trans Hb7.out)]
                  match j, hj with
                  | 0, h => simpa using h
                  | 1, h => simpa using h)
              · exact exec_move rfl (hold 11 (by kernel_rfl))
              · exact exec_load_cells _ _ rfl w3.heap.size 0 (hold 8 (by kernel_rfl)) (cs := [.int .i64 r0, .bool r1, .int .i64 r2, .string r3, .string r4, .string r5, .slice r6 r7 r8, .slice r9 ra rb]) Try.agg27 Try.size27 rfl (fun j v hj => by
                  rw [cell_of_row _ _ _ _ _ _ ((hbw _ HX3.out.size Hw35.out.2.1).trans Hb8.out)]
                  simpa using hj)
            · have hk4 : k' < 4 := by simpa using (List.getElem?_eq_some_iff.1 hk).1
              rcases (by omega : k' = 0 ∨ k' = 1 ∨ k' = 2 ∨ k' = 3) with rfl | rfl | rfl | rfl <;> obtain rfl := Option.some.inj hk <;> obtain rfl := Option.some.inj ho
              · obtain rfl := List.eq_nil_of_length_eq_zero hvl
                have hRR : Ext w7 W := hRR
                refine wp_enter2 (Φ := fun v w' => CompE w5.heap.size w7 (sortU ordU x.ps) v w') (exec_call Try.func69 rfl rfl rfl (map_one (hat 3 56 (by omega) (by kernel_rfl) (by kernel_rfl)))) ?_ hK
                have hcmp := compactU_ok w5.heap.size W (.slice A6 x.ps.length c6) l7 xs7 (ownsRow_ext Ho7.out hRR) (uidFlat_any Hf7.out) (by rw [LIM_eq, Hp7l.out]; have := Hpl.out; omega)
                refine hcmp.mono ?_
                rintro e w' ⟨v', rfl, xs', o1, o2, o3, o4⟩
                rw [Hdd.out] at o1 o2
                exact ⟨_, rfl, (hRR.toBelow.mono Hw35.out.2.2).trans o3, Nat.le_trans hRR.drawn o4, xs', o1, uidFlat_any o2⟩
              · obtain ⟨v1, rfl⟩ := lst1 hvl
                have hC1 : CompE w5.heap.size w7 (sortU ordU x.ps) v1 W := hRR
                obtain ⟨A7, c7, rfl⟩ := own_shape hC1.2.2.choose_spec.1
                refine wp_value2 (exec_build_agg _ _ rfl (vals := [(0, .agg #[.string x.uid.1, .string x.uid.2]), (1, .slice A7 (sortU ordU x.ps).length c7), (2, .agg #[.int .i64 r0, .bool r1, .int .i64 r2, .string r3, .string r4, .string r5, .slice r6 r7 r8, .slice r9 ra rb])]) ?_ (Try.built60 _ _ _ _ _ _ _ _ _ _ _ _ _ _ _ _ _)) (hK _ _ ⟨hC1, rfl⟩)
                have h2 := hat 2 55 (by omega) (by kernel_rfl) (by kernel_rfl)
                have h4 := hat 4 57 (by omega) (by kernel_rfl) (by kernel_rfl)
                have h5 := hat 5 58 (by omega) (by kernel_rfl) (by kernel_rfl)
                simp only [List.map_toArray, List.map_cons, List.map_nil, h2, h4, h5]
                rfl
              · obtain ⟨v1, e1, rfl⟩ := lst2 hvl
                obtain ⟨hC1, rfl⟩ := hRR
                have h6 := hat 6 59 (by omega) (by kernel_rfl) (by kernel_rfl)
                exact wp_value2 (exec_build _ _ rfl h6 (Try.build57 _ _ _ _ _ _ _ _ _ _ _ W)) (hK _ _ ⟨W, hC1, rfl, rfl, rfl⟩)
              · obtain ⟨v1, e1, bl, rfl⟩ := lst3 hvl
                obtain ⟨W1, hC1, rfl, rfl, rfl⟩ := hRR
                have h0 := hat 0 53 (by omega) (by kernel_rfl) (by kernel_rfl)
                have h7 := hat 7 60 (by omega) (by kernel_rfl) (by kernel_rfl)
                obtain ⟨A7, c7, rfl⟩ := own_shape hC1.2.2.choose_spec.1
                have hoW : (W1.alloc (.cells (entCells x.uid (.slice A7 (sortU ordU x.ps).length c7) [.int .i64 r0, .bool r1, .int .i64 r2, .string r3, .string r4, .string r5, .slice r6 r7 r8, .slice r9 ra rb]).toArray 60)).ownsRow (w1.heap.size + 1) 60 11 u5 ys.length xs :=
                  ownsRow_blocks (ownsRow_ext Ho.out HX57.out) fun b hb => by
                    have h1 := (Ho.out.lt b hb).2
                    have h2 := hC1.1.size
                    have h3 := Hw35.out
                    rw [heap_alloc_old _ _ (by omega)]
                    exact hC1.1.block b (by omega)
                refine wp_append_at (.tmp 53) (.tmp 60) 57 rfl (w1.heap.size + 1) 60 i0 _ 11 176 Try.underlying57 hi hz0 hz1 hz2 rfl (by decide) u5 ys.length xs h0 hoW W1.heap.size 0 1 1 (entCells x.uid (.slice A7 (sortU ordU x.ps).length c7) [.int .i64 r0, .bool r1, .int .i64 r2, .string r3, .string r4, .string r5, .slice r6 r7 r8, .slice r9 ra rb]) h7 rfl (cellsAt_new _ _ rfl) (by simp [entCells, Value.oneCell']) (by rw [maxLen_eq]; have := Hyl.out; omega) (by have := Hyl.out; omega) (by have h1 := HXr.out.size; have h2 := HX57.out.size; have h3 := hC1.1.size; simp at h1 ⊢; omega) fun v' w' ho hg hbl => hK _ _ ⟨W1, hC1, ho, hg, hbl⟩
            · intro zs vs W hzl hvl hRR hzs
              obtain ⟨v1, e1, bl, v2, rfl⟩ := lst4 hvl
              obtain ⟨z0, z1, z2, z3, z4, z5, z6, z7, z8, rfl⟩ := lst9 hzl
              have h8 : z8 = v2 := hzs 8 (by omega)
              subst h8
              obtain ⟨W1, hC1, ho9, hg9, hb9⟩ := hRR
              have Ho9 := Lib.hid ho9
              have Hg9 := Lib.hid hg9
              have Hb9 := Lib.hid hb9
              have HC1 := Lib.hid hC1
              obtain ⟨A9, c9, rfl⟩ := own_shape ho9
              clear hzs hzl hvl ho9 hg9 hb9 hC1
              simp only [List.take, List.drop, putAll]
              go_wp2_with fail
              have hone : oneE (l.map Ent.uid) x = (⟨x.uid, sortU ordU x.ps, x.av.canon.1⟩, 0) := oneE_good HK.out Hbv.out Hany.out
              have hW1 : Ext wr W1 := ⟨HX57.out.toBelow.trans (HC1.out.1.mono (by have := Hw35.out; omega)), Nat.le_trans HX57.out.drawn HC1.out.2.1⟩
              have hyE : entR.At (Fresh wr.heap.size W1) W1 ⟨x.uid, sortU ordU x.ps, x.av.canon.1⟩ (entCells x.uid v1 [.int .i64 r0, .bool r1, .int .i64 r2, .string r3, .string r4, .string r5, .slice r6 r7 r8, .slice r9 ra rb]) := by
                obtain ⟨hb1, hd1, xs', ho1, hf1⟩ := HC1.out
                have h35 := Hw35.out
                have h3s := HX3.out.size
                have hbs := hb1.size
                refine ⟨v1, _, rfl, HFu.out, ?_, ?_⟩
                · refine own_rows (R := uidR) ho1 (uidFlat_any (S' := fun _ => False) hf1) ?_ (fun b hb => hb.elim) fun b hb => ?_
                  · have h1 := sortU_length (c := ordU) x.ps
                    have h2 := Hpl.out
                    show (sortU ordU x.ps).length ≤ LIM
                    rw [LIM_eq]; omega
                  · have := ho1.lt b hb
                    exact ⟨by omega, this.2⟩
                · refine (HA3.out.alike (w' := W1) fun b hb => ?_).mono fun b hb => ⟨Nat.le_trans HXb.out.size hb.1, by have := hb.2; omega⟩
                  have h1 := hb.2
                  rw [hb1.block b (by omega), HX7.out.block b (by omega), HX5.out.block b (Nat.lt_of_lt_of_le h1 HX8.out.size), HX8.out.block b h1]
              have hflat2 := Rep.flat_step Ho.out Hf.out hW1 ((Ext.refl W1).alloc (.cells (entCells x.uid v1 [.int .i64 r0, .bool r1, .int .i64 r2, .string r3, .string r4, .string r5, .slice r6 r7 r8, .slice r9 ra rb]).toArray 60)) (Nat.le_refl _) (by have := HXr.out.size; simp at this; omega) hyE Hg9.out Hb9.out
              have hfin : ∃ ys' xs', onesE (l.map Ent.uid) (l.take (k + 1)) = (ys', 0) ∧ W.ownsRow (w1.heap.size + 1) 60 11 (.slice A9 (ys.length + 1) c9) ys'.length xs' ∧ entR.Flat (Made (w1.heap.size + 1) W (.slice A9 (ys.length + 1) c9)) W ys' xs' := by
                refine ⟨_, _, ?_, ?_, hflat2⟩
                · rw [take_succ_of Hx.out]
                  have := onesE_snoc (us := l.map Ent.uid) (x := x) (by rw [hone]) Hc.out
                  rwa [hone] at this
                · rw [List.length_append]; exact Ho9.out
              have hext2 : Ext (w1.alloc (.cells #[.map (some B)] 87)) W := ext_apart ((HXr.out.trans hW1).alloc _) Hg9.out fun b e => by
                have := (Ho.out.lt b e).1
                simp; omega
              have HFin := Lib.hid hfin
              have HE2 := Lib.hid hext2
              clear hfin hext2 hflat2 hyE hW1 hone
              go_roundw
              case rel => exact ⟨k + 1, by omega, by go_num, Lib.hid HE2.out, Lib.hid HFin.out⟩
              case measure => simp [intOf]; omega
        · have t7 : (x.av.canon.2 != 0) = true := by simpa using hbv
          have hbad : onesE (l.map Ent.uid) l = ([], x.av.canon.2) := by
            obtain ⟨ys, xs, h1, _, _⟩ := HO.out
            have hb := oneE_bad_value (us := l.map Ent.uid) HK.out hbv
            have := onesE_bad (by rw [hb]; exact hbv) (r := l.drop (k + 1)) h1
            rwa [take_drop_of Hx.out, hb] at this
          have Hbad := Lib.hid hbad
          have Hbv := Lib.hid hbv
          clear hbv hbad
          go_wp2_with fail
          go_ret2
          rw [HC.out, if_neg Hlong.out, if_neg (fun h => h HN.out), Hbad.out, if_pos Hbv.out]
          exact EntsErr.none ((HXw.out.trans HX3.out).alloc _)
      · have t6 : (q1 != 6) = true := by simpa using hk6
        have hbad : onesE (l.map Ent.uid) l = ([], 1) := by
          obtain ⟨ys, xs, h1, _, _⟩ := HO.out
          have hb := oneE_bad_kind (us := l.map Ent.uid) (x := x) (by rw [HK.out]; exact hk6)
          have := onesE_bad (by rw [hb]; decide) (r := l.drop (k + 1)) h1
          rwa [take_drop_of Hx.out, hb] at this
        have Hbad := Lib.hid hbad
        clear hk6 hbad
        go_wp2_with (first | refine wpList_load_cells rfl 60 _ rfl b (o + k * 11) rfl Try.agg60 Try.size60 rfl Hca.out ?_)
        go_ret2
        rw [HC.out, if_neg Hlong.out, if_neg (fun h => h HN.out), Hbad.out, if_pos (by decide)]
        exact EntsErr.none (HXw.out.alloc _)
    · have hke : k = l.length := by omega
      subst hke
      obtain ⟨ys, xs, hcans, hown, hflat⟩ := HO.out
      rw [List.take_length] at hcans
      have Hc := Lib.hid hcans
      have Ho := Lib.hid hown
      have Hf := Lib.hid hflat
      clear hcans hown hflat HO
      go_wp2_with fail
      refine (round_ok S l _ wr (fun b hb => Nat.lt_of_lt_of_le (HS.out b hb) HXw.out.size) (HL'.out.alike (Alike.of_ext HXw.out HS.out)) hlen HP.out HN.out).mono ?_
      rintro e w2 ⟨r, rfl, hr, hx⟩
      have Hr := Lib.hid hr
      have HX3 := Lib.hid hx
      clear hr hx
      have hlen2 : ys.length ≤ LIM := by
        have := onesE_length (us := l.map Ent.uid) (l := l) (by rw [Hc.out])
        rw [Hc.out] at this
        rw [LIM_eq, this]; omega
      have HL2 := Lib.hid hlen2
      clear hlen2
      cases r with
      | true =>
        go_wp2_with fail
        go_ret2
        rw [HC.out, if_neg Hlong.out, if_neg (fun h => h HN.out), Hc.out, if_neg (by simp), if_pos (show Rounded l by simpa using Hr.out)]
        exact EntsErr.none (HXw.out.trans HX3.out)
      | false =>
        have hS3 : ∀ b, Made (w1.heap.size + 1) wr u5 b → b < w2.heap.size ∧ u5.ownBlock ≠ some b := fun b hb => ⟨Nat.lt_of_lt_of_le hb.2.1 HX3.out.size, hb.2.2⟩
        have hsort := entR.sort_ok Go.Proofs.Try.sortE 60 Try.agg60 Try.size60 cmpE GoodAt.cmpE 71 #[] Try.enter71 (Made (w1.heap.size + 1) wr u5) (w1.heap.size + 1) w2 u5 ys xs (fun w1 x y cx cy _ _ hx hy => byUid_ok _ x y w1 cx cy hx hy) hS3 (ownsRow_ext Ho.out HX3.out) (Hf.out.alike (Alike.of_ext HX3.out fun b hb => hb.2.1)) HL2.out
        have HSo := Lib.hid (show Calls Try.prog 70 #[u5, .func (.func 71) #[] #[]] w2 _ from hsort)
        clear hsort hS3
        go_wp2_with fail
        refine HSo.out.mono ?_
        rintro e w3 ⟨rfl, l', xs', hp, hs, ho', hf', hb', hd', hg'⟩
        have Hp := Lib.hid hp
        have Hs := Lib.hid hs
        have Ho' := Lib.hid ho'
        have Hf' := Lib.hid hf'
        have Hg' := Lib.hid hg'
        clear hp hs ho' hf' hb' hd' hg' HSo
        go_wp2_with fail
        go_ret2
        have hfin : l' = sortU cmpE ys := sortedE (by
          have := onesE_uids (us := l.map Ent.uid) (l := l) (by rw [Hc.out])
          rw [Hc.out] at this
          rw [this]; exact HN.out) Hp.out Hs.out
        rw [HC.out, if_neg Hlong.out, if_neg (fun h => h HN.out), Hc.out, if_neg (by simp), if_neg (show ¬ Rounded l by simpa using Hr.out), ← hfin]
        have hsz := HX1.out.size
        refine ⟨_, rfl, ⟨xs', ownsRow_base Ho'.out (by omega), Hf'.out.mono fun b hb => ⟨by have := hb.1; omega, Nat.lt_of_lt_of_le hb.2.1 (Nat.le_trans HX3.out.size Hg'.out.size), hb.2.2⟩⟩, ?_⟩
        exact ext_apart (HXw.out.trans HX3.out) Hg'.out fun b e => by have := ((ownsRow_ext Ho.out HX3.out).lt b e).1; omega
end Go.Proofs.Ytpkgkabcikmopaa
