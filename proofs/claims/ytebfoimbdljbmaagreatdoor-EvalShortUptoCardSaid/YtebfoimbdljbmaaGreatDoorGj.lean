/-
  The marking of what is above an entity. The conditions: the store lies in memory as it should; its entities' names are apart, their parents are there.
-/
import Derived.Test.YtebfoimbdljbmaaGreatDoorGi
import Derived.Test.YtebfoimbdljbmaaGreatDoorGh
import Derived.Test.YtebfoimbdljbmaaGreatDoorLaw5tQ
namespace Go.Proofs.YtebfoimbdljbmaaGreatDoor
open Go.RowKit

theorem exec_nilCheck {P : Program} {o : Oper} {a : Act} {w : World} {x : Operand} {ad : Addr} (ho : o.op = .nilCheck x) (hx : a.eval x = .pointer (some ad)) : (execOp a.eval o).run P w = .ok (.value (.pointer (some ad))) w := by
  unfold execOp
  simp [ho, hx]
theorem exec_lookup {P : Program} {o : Oper} {a : Act} {w : World} {t : TypeId} {x y : Operand} {c : Bool} {v k r : Value} (ho : o.op = .lookup t x y c) (hx : a.eval x = v) (hy : a.eval y = k) (hr : (Instr.lookup t v k c).run P w = .ok r w) : (execOp a.eval o).run P w = .ok (.value r) w := by
  unfold execOp
  simp [ho, hx, hy, hr]
theorem map_three {f : Operand → Value} {x y z : Operand} {v u t : Value} (h : f x = v) (k : f y = u) (l : f z = t) : #[x, y, z].map f = #[v, u, t] := by simp [h, k, l]
theorem Tryz.fieldS (g : Nat) : (∀ w, (Instr.fieldAt 85 (.pointer (some ⟨g, 0, none⟩)) 0).run Tryz.prog w = .ok (.pointer (some ⟨g, 0, none⟩)) w) ∧ (∀ w, (Instr.fieldAt 85 (.pointer (some ⟨g, 0, none⟩)) 1).run Tryz.prog w = .ok (.pointer (some ⟨g, 1, none⟩)) w) ∧
    (∀ w, (Instr.fieldAt 85 (.pointer (some ⟨g, 0, none⟩)) 2).run Tryz.prog w = .ok (.pointer (some ⟨g, 2, none⟩)) w) := by
  refine ⟨?_, ?_, ?_⟩ <;> (intro w; simp [Instr.fieldAt, go_sem])
theorem Tryz.agg87 : ∀ w, (isAgg 82).run Tryz.prog w = .ok false w := fun _ => by kernel_rfl
/-- a store in memory, but for what is above -/
structure StoreAt (S : Nat → Prop) (g bA bB : Nat) (c : List Ent) (vc : Value) (W : World) : Prop where
  box : W.heap[g]? = some (.cells #[vc, .map (some bA), .map (some bB)] 85 (0, 0))
  rows : entR.RowsAt S W c vc
  at' : MapU W bA (idx (c.map Ent.uid)) c.length
  old : ∀ b, S b → b < W.heap.size ∧ b ≠ bB
  apart : g ≠ bB ∧ bA ≠ bB
theorem StoreAt.grown {S : Nat → Prop} {g bA bB : Nat} {c : List Ent} {vc : Value} {W W' : World} (h : StoreAt S g bA bB c vc W) (k : GrownBy W W' (some bB)) : StoreAt S g bA bB c vc W' :=
  ⟨(k.block _ (Blk_lt h.box) fun e => h.apart.1 (Option.some.inj e)).trans h.box, h.rows.alike fun b hb => k.block b (h.old b hb).1 fun e => (h.old b hb).2 (Option.some.inj e),
    h.at'.block (k.block _ h.at'.lt fun e => h.apart.2 (Option.some.inj e)), fun b hb => ⟨Nat.lt_of_lt_of_le (h.old b hb).1 k.size, (h.old b hb).2⟩, h.apart⟩
theorem StoreAt.ext {S : Nat → Prop} {g bA bB : Nat} {c : List Ent} {vc : Value} {W W' : World} (h : StoreAt S g bA bB c vc W) (k : Ext W W') : StoreAt S g bA bB c vc W' := h.grown (GrownBy.of_ext _ k)
/-- entities of which every parent is there, and no name twice -/
structure Tidy (c : List Ent) : Prop where
  names : (c.map Ent.uid).Nodup
  pars : ∀ e ∈ c, ∀ p ∈ e.ps, p ∈ c.map Ent.uid
  len : c.length ≤ 1000
  plen : ∀ e ∈ c, e.ps.length ≤ 1000

def ofFrom (s : Uid) (m : Pair → Bool) : Uid → Bool := fun q => m (s, q)
/-- what a marking leaves -/
structure Climbed (c : List Ent) (frm : Uid) (x : Ent) (k : Nat) (m m' : Pair → Bool) (cnt cnt' : Nat) : Prop where
  marked : Marked c x.uid k x (ofFrom frm m) (ofFrom frm m')
  other : ∀ p : Pair, p.1 ≠ frm → m' p = m p
  count : cnt' + leftN (c.map Ent.uid) (ofFrom frm m') ≤ cnt + leftN (c.map Ent.uid) (ofFrom frm m)
def markP (frm p : Uid) (m : Pair → Bool) : Pair → Bool := fun y => decide (y = (frm, p)) || m y
theorem ofFrom_mark (frm p : Uid) (m : Pair → Bool) : ofFrom frm (markP frm p m) = fun q => decide (q = p) || ofFrom frm m q := by
  funext q
  unfold ofFrom markP
  congr 1
  simp
/-- over one more parent -/
theorem Climbed.step {c : List Ent} (ht : Tidy c) {frm : Uid} {x f : Ent} {k : Nat} {m m' m2 : Pair → Bool} {cnt cnt' cnt2 : Nat} (h : Climbed c frm x k m m' cnt cnt') (hx : x ∈ c) {p : Uid} (hp : x.ps[k]? = some p) (hm : m' (frm, p) = false) (hf : f ∈ c) (hfp : f.uid = p)
    (h2 : Climbed c frm f f.ps.length (markP frm p m') m2 (cnt' + 1) cnt2) : Climbed c frm x (k + 1) m m2 cnt cnt2 := by
  have hpn := ht.pars x hx p (List.mem_of_getElem? hp)
  refine ⟨Marked.step ht.names h.marked hp hf hfp (.one ⟨x, hx, rfl, List.mem_of_getElem? hp, hpn⟩) ?_, fun y hy => ?_, ?_⟩
  · have := h2.marked
    rw [ofFrom_mark, hfp] at this
    exact this
  · rw [h2.other y hy, ← h.other y hy]
    unfold markP
    have : y ≠ (frm, p) := fun e => hy (by rw [e])
    simp [this]
  · have h3 := leftN_mark (us := c.map Ent.uid) (m := ofFrom frm m') hpn hm
    have h4 := h2.count
    rw [ofFrom_mark] at h4
    have h5 := h.count
    omega
theorem Climbed.skip {c : List Ent} {frm : Uid} {x : Ent} {k : Nat} {m m' : Pair → Bool} {cnt cnt' : Nat} (h : Climbed c frm x k m m' cnt cnt') {p : Uid} (hp : x.ps[k]? = some p) (hm : m' (frm, p) = true) : Climbed c frm x (k + 1) m m' cnt cnt' :=
  ⟨h.marked.skip hp hm, h.other, h.count⟩
def StageM (bB : Nat) (w5 : World) (m : Pair → Bool) (cnt : Nat) : List Value → World → Prop
  | [], W => Ext w5 W
  | [_], W => MapP W bB m cnt ∧ GrownBy w5 W (some bB)
  | _, _ => False
theorem StageM.grown {bB : Nat} {w5 W : World} {m : Pair → Bool} {cnt : Nat} {vs : List Value} (h : StageM bB w5 m cnt vs W) : GrownBy w5 W (some bB) := by
  match vs, h with
  | [], h => exact GrownBy.of_ext _ (show Ext w5 W from h)
  | [_], h => exact h.2
  | _ :: _ :: _, h => exact h.elim
def StageR (c : List Ent) (frm : Uid) (f : Ent) (m : Pair → Bool) (cnt bB : Nat) (w6 : World) : List Value → World → Prop
  | [], W => Ext w6 W
  | [_], W => ∃ m' cnt', MapP W bB m' cnt' ∧ Climbed c frm f f.ps.length m m' cnt cnt' ∧ GrownBy w6 W (some bB)
  | _, _ => False
theorem StageR.grown {c : List Ent} {frm : Uid} {f : Ent} {m : Pair → Bool} {cnt bB : Nat} {w6 W : World} {vs : List Value} (h : StageR c frm f m cnt bB w6 vs W) : GrownBy w6 W (some bB) := by
  match vs, h with
  | [], h => exact GrownBy.of_ext _ (show Ext w6 W from h)
  | [_], ⟨_, _, _, _, h⟩ => exact h
  | _ :: _ :: _, h => exact h.elim

end Go.Proofs.YtebfoimbdljbmaaGreatDoor

/-
  The store of entities: what the program's Load leaves in memory. The conditions: the entities lie in memory as they should, and are few.
-/
namespace Go.Proofs.YtebfoimbdljbmaaGreatDoor
open Go.RowKit

/-- a store in memory -/
structure Fam (W : World) (g : Nat) (c : List Ent) : Prop where
  ex : ∃ (S : Nat → Prop) (bA bB : Nat) (vc : Value) (m : Pair → Bool) (cnt : Nat), StoreAt S g bA bB c vc W ∧ MapP W bB m cnt ∧ (∀ u q, m (u, q) = true ↔ UpTo c u q) ∧ cnt ≤ 1048000
  tidy : Tidy c
theorem Fam.ext {W W' : World} {g : Nat} {c : List Ent} (h : Fam W g c) (k : Ext W W') : Fam W' g c := by
  obtain ⟨S, bA, bB, vc, m, cnt, h1, h2, h3⟩ := h.ex
  exact ⟨⟨S, bA, bB, vc, m, cnt, h1.ext k, h2.ext k, h3⟩, h.tidy⟩

/-- the marks of the first entities -/
def MarksUpTo (c : List Ent) (i : Nat) (m : Pair → Bool) : Prop := ∀ u q, m (u, q) = true ↔ (∃ j, j < i ∧ (c.map Ent.uid)[j]? = some u) ∧ UpTo c u q
theorem MarksUpTo.free {c : List Ent} (hn : (c.map Ent.uid).Nodup) {i : Nat} {m : Pair → Bool} (h : MarksUpTo c i m) {x : Ent} (hx : c[i]? = some x) (q : Uid) : m (x.uid, q) = false := by
  cases hm : m (x.uid, q) with
  | false => rfl
  | true =>
    obtain ⟨⟨j, hj, hju⟩, _⟩ := (h _ _).1 hm
    have h1 := idx_of_get hn hju
    have h2 := idx_of_get (i := i) (u := x.uid) hn (by rw [List.getElem?_map, hx]; rfl)
    rw [h1] at h2
    injection h2 with h2
    omega
theorem MarksUpTo.step {c : List Ent} (ht : Tidy c) {i : Nat} {m m' : Pair → Bool} {cnt cnt' : Nat} (h : MarksUpTo c i m) {x : Ent} (hx : c[i]? = some x) (k : Climbed c x.uid x x.ps.length m m' cnt cnt') : MarksUpTo c (i + 1) m' := fun u q => by
  have hxc := List.mem_of_getElem? hx
  by_cases hu : u = x.uid
  · subst hu
    have h1 := Marked.all ht.names hxc (fun p hp => ht.pars x hxc p hp) (m := ofFrom x.uid m) (fun q => h.free ht.names hx q) k.marked q
    have h1 : m' (x.uid, q) = true ↔ UpTo c x.uid q := h1
    rw [h1]
    exact ⟨fun h => ⟨⟨i, by omega, by rw [List.getElem?_map, hx]; rfl⟩, h⟩, fun h => h.2⟩
  · rw [k.other (u, q) hu, h u q]
    constructor
    · rintro ⟨⟨j, hj, hju⟩, h2⟩
      exact ⟨⟨j, by omega, hju⟩, h2⟩
    · rintro ⟨⟨j, hj, hju⟩, h2⟩
      refine ⟨⟨j, ?_, hju⟩, h2⟩
      rcases Nat.lt_or_ge j i with h3 | h3
      · exact h3
      · have : j = i := by omega
        subst this
        rw [List.getElem?_map, hx] at hju
        exact absurd (Option.some.inj hju).symm hu
theorem MarksUpTo.all {c : List Ent} {m : Pair → Bool} (h : MarksUpTo c c.length m) (u q : Uid) : m (u, q) = true ↔ UpTo c u q := by
  rw [h u q]
  refine ⟨fun h => h.2, fun hup => ⟨?_, hup⟩⟩
  obtain ⟨j, hj⟩ := List.mem_iff_getElem?.1 hup.names.1
  exact ⟨j, by have := (List.getElem?_eq_some_iff.1 hj).1; simpa using this, hj⟩
def StageU (c : List Ent) (bA k : Nat) (w3 : World) : List Value → World → Prop
  | [], W => Ext w3 W
  | [_], W => MapU W bA (idx ((c.map Ent.uid).take (k + 1))) (k + 1) ∧ GrownBy w3 W (some bA)
  | _, _ => False
theorem StageU.grown {c : List Ent} {bA k : Nat} {w3 W : World} {vs : List Value} (h : StageU c bA k w3 vs W) : GrownBy w3 W (some bA) := by
  match vs, h with
  | [], h => exact GrownBy.of_ext _ (show Ext w3 W from h)
  | [_], h => exact h.2
  | _ :: _ :: _, h => exact h.elim

end Go.Proofs.YtebfoimbdljbmaaGreatDoor

/-
  What the program tells of a store: an entity by its name, all of them, whether one is in another one. The conditions: the store lies in memory as it should.
-/
namespace Go.Proofs.YtebfoimbdljbmaaGreatDoor
open Go.RowKit

theorem exec_assign {P : Program} {o : Oper} {a : Act} {w : World} {x : Operand} {v : Value} (ho : o.op = .assign x) (hv : a.eval x = v) : (execOp a.eval o).run P w = .ok (.value v) w := by
  unfold execOp
  simp [ho, hv]
theorem lst11 {α : Type} {l : List α} (h : l.length = 11) : ∃ a0 a1 a2 a3 a4 a5 a6 a7 a8 a9 a10, l = [a0, a1, a2, a3, a4, a5, a6, a7, a8, a9, a10] := by
  match l, h with
  | [_, _, _, _, _, _, _, _, _, _, _], _ => exact ⟨_, _, _, _, _, _, _, _, _, _, _, rfl⟩
section
open Go.Maps
set_option maxRecDepth 100000 in
/-- 'v, ok := m[u]', by what it comes to -/
theorem MapU.look_at {w : World} {b : Nat} {m : Uid → Option Nat} {cnt : Nat} (h : MapU w b m cnt) {u : Uid} (hu : FitU u) : (Instr.lookup 82 (.map (some b)) (valU u) true).run Tryz.prog w = .ok (.tuple #[.int .i64 ((m u).getD 0 : Nat), .bool (m u).isSome]) w := by
  obtain ⟨D, n, hown, hn, hr, hc, hle⟩ := h
  obtain ⟨v, ps, hrun, hv⟩ := hown.look_ok Tryz.lawU Tryz.underlying82 (Tryz.zeroI w) (plainElem_int Tryz.underlying3 (by decide)) (key_of_uid hu)
  obtain ⟨c, rfl, hx, hwc⟩ := plainElem_int_inv Tryz.underlying3 hv
  injection hx with hx _
  rw [hr.has u hu] at hrun
  cases hmu : m u with
  | none =>
    have h0 := atKey_of_not_has (D := D) (k := litU u) (by rw [hr.has u hu, hmu]; rfl) (.lit (.int .i64 0))
    rw [h0] at hx
    injection hx with hx
    injection hx with _ hx
    subst hx
    rw [hmu] at hrun
    exact hrun
  | some i =>
    rw [hr.at' u i hu hmu] at hx
    injection hx with hx
    injection hx with _ hx
    subst hx
    rw [hmu] at hrun
    exact hrun
end
def zeroEnt : List Value := entCells (ByteArray.empty, ByteArray.empty) (.slice none 0 0) zeroCells
def GetPost (us : List Uid) (c : List Ent) (u : Uid) (w : World) (e : Ending) (w' : World) : Prop :=
  ∃ (cs : List Value) (b : Bool), e = .returned (.tuple #[.agg cs.toArray, .bool b]) ∧ ((idx us u = none ∧ b = false ∧ cs = zeroEnt) ∨ ∃ i x, idx us u = some i ∧ c[i]? = some x ∧ b = true ∧ entR.At (FreshU w.heap.size w') w' x cs) ∧ Ext w w'

set_option maxRecDepth 100000 in
set_option maxHeartbeats 4000000 in
theorem getF_ok (g : Nat) (c : List Ent) (u : Uid) (w : World) (hu : FitU u) (h : Fam w g c) :
    Calls Tryz.prog 171 #[.pointer (some ⟨g, 0, none⟩), valU u] w (GetPost (c.map Ent.uid) c u w) := by
  obtain ⟨⟨S, bA, bB, vc, m, cnt, hst, hmp, hm, hcnt⟩, ht⟩ := h
  have HSt := Lib.hid hst
  have HU := Lib.hid hu
  clear hst hmp hm hcnt ht hu
  obtain ⟨t, i⟩ := u
  unfold valU
  go_enter Tryz.func171, Tryz.ntmps171
  go_wp2_with fail
  obtain ⟨W0, hW0⟩ : ∃ W0, W0 = (w.alloc (.cells #[.string t, .string i] 23)).alloc (.cells zeroEnt.toArray 87) := ⟨_, rfl⟩
  have h2 := heap2 w (.cells #[.string t, .string i] 23) (.cells zeroEnt.toArray 87)
  change Code.wp Tryz.prog _ _ _ ((w.alloc (.cells #[.string t, .string i] 23)).alloc (.cells zeroEnt.toArray 87))
  rw [← hW0] at h2 ⊢
  obtain ⟨q0, q1, qs, qx⟩ := h2
  have HQ0 := Lib.hid q0
  have HQ1 := Lib.hid q1
  have HQS := Lib.hid qs
  have HQX := Lib.hid qx
  have HSt0 := Lib.hid (HSt.out.ext qx)
  clear q0 q1 qs qx hW0
  obtain ⟨iv, hiv⟩ : ∃ iv, iv = (idx (c.map Ent.uid) (t, i)).getD 0 := ⟨_, rfl⟩
  obtain ⟨tb, htb⟩ : ∃ tb, tb = (idx (c.map Ent.uid) (t, i)).isSome := ⟨_, rfl⟩
  have HIv := Lib.hid hiv
  have HTb := Lib.hid htb
  clear hiv htb
  refine staged_region 11 [] [.pointer (some ⟨g, 0, none⟩), .pointer (some ⟨g, 0, none⟩), .pointer (some ⟨g, 1, none⟩), .map (some bA), .agg #[.string t, .string i], .tuple #[.int .i64 iv, .bool tb], .tuple #[.int .i64 iv, .bool tb], .int .i64 iv, .bool tb, .int .i64 iv, .bool tb] (fun _ W => Ext W0 W) (by kernel_rfl) (by kernel_rfl) (by kernel_rfl) (by kernel_rfl)
    (show Ext W0 W0.drew from ⟨⟨rfl, rfl, rfl, Nat.le_refl _, fun _ _ => rfl⟩, Nat.le_succ _⟩) (fun i' op hi hn ho vs W a hRR hold hat => ?_) (fun k' i' op hk ho vs W a hvl hRR hold hat Q' K hK => by simp at hk) ?_
  · rcases (by omega : i' = 0 ∨ i' = 1 ∨ i' = 2 ∨ i' = 3 ∨ i' = 4 ∨ i' = 5 ∨ i' = 6 ∨ i' = 7 ∨ i' = 8 ∨ i' = 9 ∨ i' = 10) with rfl | rfl | rfl | rfl | rfl | rfl | rfl | rfl | rfl | rfl | rfl <;> obtain rfl := Option.some.inj ho
    · exact exec_move rfl (hold 0 (by kernel_rfl))
    · exact exec_nilCheck rfl (hat 0 12 (by omega) (by kernel_rfl) (by kernel_rfl))
    · exact exec_field _ _ _ rfl (hat 1 13 (by omega) (by kernel_rfl) (by kernel_rfl)) (Tryz.fieldS g).2.1
    · exact exec_load_one 82 _ rfl g 1 (hat 2 14 (by omega) (by kernel_rfl) (by kernel_rfl)) Tryz.agg87 (cell_of_row _ _ 1 _ _ _ (HSt0.out.ext hRR).box)
    · exact exec_load_cells 23 _ rfl w.heap.size 0 (hold 3 (by kernel_rfl)) Tryz.agg23 Tryz.size23 rfl (cells_of_row ((hRR.block _ (Blk_lt HQ0.out)).trans HQ0.out))
    · refine exec_lookup rfl (hat 3 15 (by omega) (by kernel_rfl) (by kernel_rfl)) (hat 4 16 (by omega) (by kernel_rfl) (by kernel_rfl)) (((HSt0.out.ext hRR).at'.look_at HU.out).trans ?_)
      rw [← HIv.out, ← HTb.out]; rfl
    · exact exec_move rfl (hat 5 17 (by omega) (by kernel_rfl) (by kernel_rfl))
    · exact exec_extract rfl (hat 6 11 (by omega) (by kernel_rfl) (by kernel_rfl)) rfl
    · exact exec_extract rfl (hat 6 11 (by omega) (by kernel_rfl) (by kernel_rfl)) rfl
    · exact exec_assign rfl (hat 7 18 (by omega) (by kernel_rfl) (by kernel_rfl))
    · exact exec_assign rfl (hat 8 19 (by omega) (by kernel_rfl) (by kernel_rfl))
  intro zs vs w1 hzl hvl hRR hzs
  obtain ⟨z0, z1, z2, z3, z4, z5, z6, z7, z8, z9, z10, rfl⟩ := lst11 hzl
  obtain rfl : z9 = .int .i64 iv := hzs 9 (by omega)
  obtain rfl : z10 = .bool tb := hzs 10 (by omega)
  have HX1 := Lib.hid hRR
  have HQ1' := Lib.hid ((hRR.block _ (Blk_lt HQ1.out)).trans HQ1.out)
  have HSt1 := Lib.hid (HSt0.out.ext hRR)
  clear hRR hzs hzl hvl
  simp only [List.take, List.drop, putAll, Act.put, List.setIfInBounds_toArray, List.set_cons_zero, List.set_cons_succ]
  have hz1 : ∀ v ∈ zeroEnt, v.oneCell' = true := entCells_one rfl (by simp [zeroCells, Value.oneCell'])
  cases tb with
  | false =>
    go_wp2_with (first | (refine wpList_store_all rfl 87 _ _ rfl (w.heap.size + 1) rfl zeroEnt rfl Tryz.size60 rfl 87 zeroEnt.toArray HQ1'.out rfl hz1 ?_; intro w9 hw9 hg9))
    refine bodyPost_ret (v := .tuple #[.agg zeroEnt.toArray, .bool false]) (results_cell Tryz.results171 rfl Tryz.agg60 Tryz.size60 rfl (cells_of_row hw9)) rfl ?_
    refine ⟨zeroEnt, false, rfl, .inl ⟨?_, rfl, rfl⟩, ext_apart (HQX.out.trans HX1.out) hg9 fun b e => by injection e with e; omega⟩
    have h := HTb.out
    cases hi : idx (c.map Ent.uid) (t, i) with
    | none => rfl
    | some j => rw [hi] at h; cases h
  | true =>
    obtain ⟨hi, hil⟩ : idx (c.map Ent.uid) (t, i) = some iv ∧ iv < c.length := by
      have h := HTb.out
      cases hi : idx (c.map Ent.uid) (t, i) with
      | none => rw [hi] at h; cases h
      | some j =>
        have h2 := HIv.out
        rw [hi] at h2
        subst h2
        exact ⟨rfl, by have := idx_lt hi; simpa using this⟩
    have HI := Lib.hid hi
    obtain ⟨A9, c9, rfl, ⟨hb1, hb2, hb3⟩, hrow9⟩ := HSt1.out.rows
    obtain ⟨eb, eo, rfl, hSe, hrow9⟩ := hrow9 (by omega)
    obtain ⟨x, hx⟩ : ∃ x, c[iv]? = some x := ⟨_, List.getElem?_eq_getElem hil⟩
    obtain ⟨cs, hca, hxa⟩ := hrow9 iv x hx
    have HX := Lib.hid hx
    have HCa := Lib.hid hca
    have HXa := Lib.hid hxa
    have hcl : cs.length = 11 := entR.len hxa
    have HCl := Lib.hid hcl
    have HO := Lib.hid HSt1.out.old
    have f0 : w1.cell? ⟨g, 0, none⟩ = some (.slice (some ⟨eb, eo, none⟩) c.length c9) := cell_of_row _ _ 0 _ _ _ HSt1.out.box
    rw [maxLen_eq] at hb3
    rw [LIM_eq] at hb1
    clear hi hrow9 hx hca hxa hcl hSe
    go_wp2_with (first | refine wpList_load_cells rfl 87 _ rfl eb (eo + iv * 11) rfl Tryz.agg60 Tryz.size60 HCl.out HCa.out ?_)
    refine (copied_ok x S w1 cs (fun b hb => (HO.out b hb).1) HXa.out).mono ?_
    rintro e w2 ⟨cs2, rfl, hc2, hx2⟩
    have HC2 := Lib.hid hc2
    have HX2 := Lib.hid hx2
    have HQ2 := Lib.hid ((hx2.block _ (Blk_lt HQ1'.out)).trans HQ1'.out)
    clear hc2 hx2 f0
    go_wp2_with (first | (refine wpList_store_all rfl 87 _ _ rfl (w.heap.size + 1) rfl cs2 rfl Tryz.size60 (entR.len HC2.out) 87 zeroEnt.toArray HQ2.out (by rw [show cs2.length = 11 from entR.len HC2.out]; rfl) (entR.one HC2.out) ?_; intro w9 hw9 hg9))
    refine bodyPost_ret (v := .tuple #[.agg cs2.toArray, .bool true]) (results_cell Tryz.results171 rfl Tryz.agg60 Tryz.size60 (entR.len HC2.out) (cells_of_row hw9)) rfl ?_
    have s1 := HX1.out.size
    have s2 := HX2.out.size
    have s9 := hg9.size
    have sq := HQS.out
    refine ⟨cs2, true, rfl, .inr ⟨iv, x, HI.out, HX.out, rfl, ?_⟩, ext_apart (HQX.out.trans (HX1.out.trans HX2.out)) hg9 fun b e => by injection e with e; omega⟩
    refine entR.mono (entR.alike HC2.out fun b hb => hg9.block b hb.lt fun e => ?_) fun b hb => (hb.grown hg9 fun e => ?_).low (by omega)
    · have := hb.1
      injection e with e
      omega
    · have := hb.1
      injection e with e
      omega

/-! ### all of them -/
/-- a row of the call's own, whose things lie in new memory that may be written -/
def OwnD {α : Type} (R : Rep α) (T : TypeId) (base : Nat) (W : World) (v : Value) (l : List α) : Prop :=
  ∃ xs, W.ownsRow base T R.size v l.length xs ∧ R.Flat (MadeU base W v) W l xs
section
variable {α : Type} {R : Rep α} {T : TypeId} {base : Nat} {W W' : World} {v v' : Value} {l : List α}
theorem OwnD.nil : OwnD R T base W (.slice none 0 0) [] := ⟨[], World.ownsRow_nil _ _ _ _, rfl⟩
theorem MadeU.ext {b : Nat} (h : MadeU base W v b) (k : Ext W W') : MadeU base W' v b := ⟨h.1, (h.fresh.ext k).2, h.2.2⟩
theorem OwnD.ext (h : OwnD R T base W v l) (k : Ext W W') : OwnD R T base W' v l := by
  obtain ⟨xs, h1, h2⟩ := h
  exact ⟨xs, ownsRow_ext h1 k, (Rep.Flat.alike (Alike.of_ext k fun b hb => hb.lt) h2).mono fun b hb => hb.ext k⟩
theorem OwnD.shape (h : OwnD R T base W v l) : ∃ A cap, v = .slice A l.length cap := by
  obtain ⟨xs, h1, _⟩ := h
  exact own_shape h1
theorem OwnD.lt (h : OwnD R T base W v l) : ∀ b, v.ownBlock = some b → base ≤ b ∧ b < W.heap.size := by
  obtain ⟨xs, h1, _⟩ := h
  exact h1.lt
theorem OwnD.rows (h : OwnD R T base W v l) (hl : l.length ≤ LIM) : R.RowsAt (FreshU base W) W l v := by
  obtain ⟨xs, h1, h2⟩ := h
  exact own_rows h1 h2 hl (fun b hb => hb.fresh) fun b hb => own_free h1 hb
theorem OwnD.push {x : α} {xs cs : List Value} (hf : R.Flat (MadeU base W v) W l xs) (hx : R.At (MadeU base W v) W x cs) (hg : GrownBy W W' v.ownBlock)
    (ho : W'.ownsRow base T R.size v' (l.length + 1) (xs ++ cs)) (hv : v'.ownBlock = v.ownBlock ∨ v'.ownBlock = some W.heap.size) : OwnD R T base W' v' (l ++ [x]) := by
  have hal : Alike (MadeU base W v) W W' := fun b hb => hg.block b hb.lt fun e => hb.2.2 e.symm
  refine ⟨xs ++ cs, by simpa using ho, ?_⟩
  refine Rep.Flat.mono (S := MadeU base W v) (fun b hb => ⟨hb.1, (hb.fresh.grown hg fun e => hb.2.2 e.symm).2, fun e => ?_⟩) (Rep.Flat.snoc (R.alike hx hal) (Rep.Flat.alike hal hf))
  rcases hv with hv | hv
  · exact hb.2.2 (hv ▸ e)
  · rw [hv] at e; injection e with e; have := hb.lt; omega
end
end Go.Proofs.YtebfoimbdljbmaaGreatDoor

/-
  Whether one is, or is below, another one, by the program's store. The conditions: the store lies in memory as it should.
-/
namespace Go.Proofs.YtebfoimbdljbmaaGreatDoor
open Go.RowKit

open Classical in
/-- is, or is below -/
noncomputable def inB (c : List Ent) (a b : Uid) : Bool := decide (a = b) || decide (UpTo c a b)

set_option maxRecDepth 100000 in
set_option maxHeartbeats 4000000 in
theorem inN_ok (x y : Uid) (w : World) : Calls Tryz.prog 44 #[.pointer none, valU x, valU y] w fun e w' => e = .returned (.bool (decide (x = y))) ∧ Ext w w' := by
  obtain ⟨t1, i1⟩ := x
  obtain ⟨t2, i2⟩ := y
  unfold valU
  go_enter Tryz.func44, Tryz.ntmps44
  go_wp2_with fail
  obtain ⟨W0, hW0⟩ : ∃ W0, W0 = (w.alloc (.cells #[.string t1, .string i1] 23)).alloc (.cells #[.string t2, .string i2] 23) := ⟨_, rfl⟩
  have h2 := heap2 w (.cells #[.string t1, .string i1] 23) (.cells #[.string t2, .string i2] 23)
  rw [← hW0] at h2 ⊢
  obtain ⟨q0, q1, qs, qx⟩ := h2
  have HQX := Lib.hid qx
  have c0 := cell_of_row _ _ 0 _ _ _ q0
  have c1 := cell_of_row _ _ 1 _ _ _ q0
  have c2 := cell_of_row _ _ 0 _ _ _ q1
  have c3 := cell_of_row _ _ 1 _ _ _ q1
  simp at c0 c1 c2 c3
  have r0 := cell_regrown c0
  have r1 := cell_regrown c1
  have r2 := cell_regrown c2
  have r3 := cell_regrown c3
  clear q0 q1 qs qx hW0 c0 c1 c2 c3
  obtain ⟨tb, htb⟩ : ∃ tb, decide ((t1, i1) = ((t2, i2) : Uid)) = tb := ⟨_, rfl⟩
  have tq : ∀ w, (binOp .eql 23 (.agg #[.string t1, .string i1]) (.agg #[.string t2, .string i2])).run Tryz.prog w = .ok (.bool tb) w := fun w => by rw [← htb]; exact eqlU (t1, i1) (t2, i2) w
  have tq' : ∀ w, (Op.equalIn 10000 23 (.agg #[.string t1, .string i1]) (.agg #[.string t2, .string i2])).run Tryz.prog w = .ok tb w := fun w => by rw [← htb]; exact eqlU_in (t1, i1) (t2, i2) w
  have tg : ∀ (p q : Operand) w, (eqGuard .eql 23 p q (.agg #[.string t1, .string i1]) (.agg #[.string t2, .string i2])).run Tryz.prog w = .ok () w := fun p q w => guardU _ p q (t1, i1) (t2, i2) w
  have HT := Lib.hid htb
  clear htb
  cases tb with
  | true =>
    refine region_later (by kernel_rfl) (by kernel_rfl) ?_
    repeat (go_big_quiet_step (fail))
    refine wpQuiet_nil ?_
    intro w2 hw2
    have HX2 := Lib.hid hw2
    clear tq tq' tg hw2 r0 r1 r2 r3
    go_wp2_with fail
    refine bodyPost_ret (v := .bool true) (by kernel_rfl) rfl ?_
    exact ⟨by rw [HT.out], HQX.out.trans HX2.out⟩
  | false =>
    refine region_later (by kernel_rfl) (by kernel_rfl) ?_
    repeat (go_big_quiet_step (fail))
    refine wpQuiet_nil ?_
    intro w2 hw2
    have HX2 := Lib.hid hw2
    clear tq tq' tg hw2 r0 r1 r2 r3
    go_wp2_with fail
    refine bodyPost_ret (v := .bool false) (by kernel_rfl) rfl ?_
    exact ⟨by rw [HT.out], HQX.out.trans HX2.out⟩

set_option maxRecDepth 100000 in
set_option maxHeartbeats 4000000 in
theorem inF_ok (g : Nat) (c : List Ent) (x y : Uid) (w : World) (hx : FitU x) (hy : FitU y) (h : Fam w g c) : Calls Tryz.prog 44 #[.pointer (some ⟨g, 0, none⟩), valU x, valU y] w fun e w' => e = .returned (.bool (inB c x y)) ∧ Ext w w' := by
  obtain ⟨⟨S, bA, bB, vc, m, cnt, hst, hmp, hm, hcnt⟩, ht⟩ := h
  have HSt := Lib.hid hst
  have HMp := Lib.hid hmp
  have HM := Lib.hid hm
  have HFp : Hid (FitP (x, y)) := Lib.hid ⟨hx, hy⟩
  clear hst hmp hm hcnt ht hx hy
  obtain ⟨t1, i1⟩ := x
  obtain ⟨t2, i2⟩ := y
  unfold valU
  go_enter Tryz.func44, Tryz.ntmps44
  go_wp2_with fail
  obtain ⟨W0, hW0⟩ : ∃ W0, W0 = (w.alloc (.cells #[.string t1, .string i1] 23)).alloc (.cells #[.string t2, .string i2] 23) := ⟨_, rfl⟩
  have h2 := heap2 w (.cells #[.string t1, .string i1] 23) (.cells #[.string t2, .string i2] 23)
  rw [← hW0] at h2 ⊢
  obtain ⟨q0, q1, qs, qx⟩ := h2
  have HQX := Lib.hid qx
  have c0 := cell_of_row _ _ 0 _ _ _ q0
  have c1 := cell_of_row _ _ 1 _ _ _ q0
  have c2 := cell_of_row _ _ 0 _ _ _ q1
  have c3 := cell_of_row _ _ 1 _ _ _ q1
  simp at c0 c1 c2 c3
  have r0 := cell_regrown c0
  have r1 := cell_regrown c1
  have r2 := cell_regrown c2
  have r3 := cell_regrown c3
  have r4 := cell_regrown (cell_of_row _ _ 2 _ _ _ (HSt.out.ext qx).box)
  simp at r4
  obtain ⟨tm, htm⟩ : ∃ tm, m ((t1, i1), (t2, i2)) = tm := ⟨_, rfl⟩
  have r5 : ∀ d os, (Instr.lookup 83 (.map (some bB)) (.agg #[.string t1, .string i1, .string t2, .string i2]) false).run Tryz.prog (Sort.grow (redrawn W0 d) os) = .ok (.bool tm) (Sort.grow (redrawn W0 d) os) := fun d os => by
    have h := ((HMp.out.ext qx).ext (below_regrown W0 d os)).look HFp.out
    rw [htm] at h
    exact h
  have HTm := Lib.hid htm
  clear htm
  clear q0 q1 qs qx hW0 c0 c1 c2 c3
  obtain ⟨tb, htb⟩ : ∃ tb, decide ((t1, i1) = ((t2, i2) : Uid)) = tb := ⟨_, rfl⟩
  have tq : ∀ w, (binOp .eql 23 (.agg #[.string t1, .string i1]) (.agg #[.string t2, .string i2])).run Tryz.prog w = .ok (.bool tb) w := fun w => by rw [← htb]; exact eqlU (t1, i1) (t2, i2) w
  have tq' : ∀ w, (Op.equalIn 10000 23 (.agg #[.string t1, .string i1]) (.agg #[.string t2, .string i2])).run Tryz.prog w = .ok tb w := fun w => by rw [← htb]; exact eqlU_in (t1, i1) (t2, i2) w
  have tg : ∀ (p q : Operand) w, (eqGuard .eql 23 p q (.agg #[.string t1, .string i1]) (.agg #[.string t2, .string i2])).run Tryz.prog w = .ok () w := fun p q w => guardU _ p q (t1, i1) (t2, i2) w
  have HT := Lib.hid htb
  clear htb
  cases tb with
  | true =>
    refine region_later (by kernel_rfl) (by kernel_rfl) ?_
    repeat (go_big_quiet_step (fail))
    refine wpQuiet_nil ?_
    intro w2 hw2
    have HX2 := Lib.hid hw2
    clear tq tq' tg hw2 r0 r1 r2 r3 r4 r5
    go_wp2_with fail
    refine bodyPost_ret (v := .bool true) (by kernel_rfl) rfl ?_
    exact ⟨by unfold inB; rw [HT.out]; rfl, HQX.out.trans HX2.out⟩
  | false =>
    have hin : inB c (t1, i1) (t2, i2) = tm := by
      unfold inB
      rw [HT.out, Bool.false_or, ← HTm.out]
      by_cases hup : UpTo c (t1, i1) (t2, i2)
      · simp [hup, (HM.out _ _).2 hup]
      · simp only [hup, decide_false]
        cases hmm : m ((t1, i1), (t2, i2)) with
        | false => rfl
        | true => exact absurd ((HM.out _ _).1 hmm) hup
    have HIn := Lib.hid hin
    clear hin
    refine region_later (by kernel_rfl) (by kernel_rfl) ?_
    repeat (go_big_quiet_step (fail))
    refine wpQuiet_nil ?_
    intro w2 hw2
    have HX2 := Lib.hid hw2
    clear tq tq' tg hw2 r0 r1 r2 r3 r4 r5
    go_wp2_with fail
    refine bodyPost_ret (v := .bool tm) (by kernel_rfl) rfl ?_
    exact ⟨by rw [HIn.out], HQX.out.trans HX2.out⟩

end Go.Proofs.YtebfoimbdljbmaaGreatDoor
