/-
  The marking of what is above an entity. The conditions: the store lies in memory as it should; its entities' names are apart, their parents are there.
-/
import Derived.Test.YtebfoimbdljbmaaGreatDoorGi
import Derived.Test.YtebfoimbdljbmaaGreatDoorGh
import Derived.Test.YtebfoimbdljbmaaGreatDoorLaw5tQ
namespace Go.Proofs.YtebfoimbdljbmaaGreatDoor
open Go.RowKit
theorem wp_mapUpdate {P : Program} {o : Oper} {a : Act} {w w' : World} {K : Act → World → Prop} {Q : Exit → Act → World → Prop} {t : TypeId} {x y z : Operand} {v k u : Value} (ho : o.op = .mapUpdate t x y z) (hx : a.eval x = v) (hy : a.eval y = k) (hz : a.eval z = u) (hr : (Instr.mapUpdate t v k u).run P w = .ok () w')
  (hk : K (a.put o.dst undef) w') : o.wp P a w K Q := by
 unfold Oper.wp execOp
 simp [ho, hx, hy, hz, hr]
 exact hk
structure StoreAt (S : Nat → Prop) (g bA bB : Nat) (c : List Ent) (vc : Value) (W : World) : Prop where
 box : W.heap[g]? = some (.cells #[vc, .map (some bA), .map (some bB)] 85 (0, 0))
 rows : entR.RowsAt S W c vc
 at' : MapU W bA (idx (c.map Ent.uid)) c.length
 old : ∀ b, S b → b < W.heap.size ∧ b ≠ bB
 apart : g ≠ bB ∧ bA ≠ bB
theorem StoreAt.grown {S : Nat → Prop} {g bA bB : Nat} {c : List Ent} {vc : Value} {W W' : World} (h : StoreAt S g bA bB c vc W) (k : GrownBy W W' (some bB)) : StoreAt S g bA bB c vc W' :=
 ⟨(k.block _ (zaf h.box) fun e => h.apart.1 (Option.some.inj e)).trans h.box, h.rows.alike fun b hb => k.block b (h.old b hb).1 fun e => (h.old b hb).2 (Option.some.inj e),
  h.at'.block (k.block _ h.at'.lt fun e => h.apart.2 (Option.some.inj e)), fun b hb => ⟨Nat.lt_of_lt_of_le (h.old b hb).1 k.size, (h.old b hb).2⟩, h.apart⟩
theorem StoreAt.ext {S : Nat → Prop} {g bA bB : Nat} {c : List Ent} {vc : Value} {W W' : World} (h : StoreAt S g bA bB c vc W) (k : Ext W W') : StoreAt S g bA bB c vc W' := h.grown (GrownBy.of_ext _ k)
structure Tidy (c : List Ent) : Prop where
 names : (c.map Ent.uid).Nodup
 pars : ∀ e ∈ c, ∀ p ∈ e.ps, p ∈ c.map Ent.uid
 len : c.length ≤ 1000
 plen : ∀ e ∈ c, e.ps.length ≤ 1000
def ofFrom (s : Uid) (m : zby → Bool) : Uid → Bool := fun q => m (s, q)
structure Climbed (c : List Ent) (frm : Uid) (x : Ent) (k : Nat) (m m' : zby → Bool) (cnt cnt' : Nat) : Prop where
 marked : Marked c x.uid k x (ofFrom frm m) (ofFrom frm m')
 other : ∀ p : zby, p.1 ≠ frm → m' p = m p
 count : cnt' + leftN (c.map Ent.uid) (ofFrom frm m') ≤ cnt + leftN (c.map Ent.uid) (ofFrom frm m)
def markP (frm p : Uid) (m : zby → Bool) : zby → Bool := fun y => decide (y = (frm, p)) || m y
theorem ofFrom_mark (frm p : Uid) (m : zby → Bool) : ofFrom frm (markP frm p m) = fun q => decide (q = p) || ofFrom frm m q := by
 funext q
 unfold ofFrom markP
 congr 1
 simp
theorem Climbed.step {c : List Ent} (ht : Tidy c) {frm : Uid} {x f : Ent} {k : Nat} {m m' m2 : zby → Bool} {cnt cnt' cnt2 : Nat} (h : Climbed c frm x k m m' cnt cnt') (hx : x ∈ c) {p : Uid} (hp : x.ps[k]? = some p) (hm : m' (frm, p) = false) (hf : f ∈ c) (hfp : f.uid = p)
  (h2 : Climbed c frm f f.ps.length (markP frm p m') m2 (cnt' + 1) cnt2) : Climbed c frm x (k + 1) m m2 cnt cnt2 := by
 have hpn := ht.pars x hx p (List.mem_of_getElem? hp)
 refine ⟨Marked.step ht.names h.marked hp hf hfp (.one ⟨x, hx, rfl, List.mem_of_getElem? hp, hpn⟩) ?_, fun y hy => ?_, ?_⟩
 ·have := h2.marked
  rw [ofFrom_mark, hfp] at this
  exact this
 ·rw [h2.other y hy, ← h.other y hy]
  unfold markP
  have : y ≠ (frm, p) := fun e => hy (by rw [e])
  simp [this]
 ·have h3 := leftN_mark (us := c.map Ent.uid) (m := ofFrom frm m') hpn hm
  have h4 := h2.count
  rw [ofFrom_mark] at h4
  have h5 := h.count
  omega
def StageM (bB : Nat) (w5 : World) (m : zby → Bool) (cnt : Nat) : List Value → World → Prop
 | [], W => Ext w5 W
 | [_], W => MapP W bB m cnt ∧ GrownBy w5 W (some bB)
 | _, _ => False
theorem StageM.grown {bB : Nat} {w5 W : World} {m : zby → Bool} {cnt : Nat} {vs : List Value} (h : StageM bB w5 m cnt vs W) : GrownBy w5 W (some bB) := by
 match vs, h with
 | [], h => exact GrownBy.of_ext _ (show Ext w5 W from h)
 | [_], h => exact h.2
 | _ :: _ :: _, h => exact h.elim
def StageR (c : List Ent) (frm : Uid) (f : Ent) (m : zby → Bool) (cnt bB : Nat) (w6 : World) : List Value → World → Prop
 | [], W => Ext w6 W
 | [_], W => ∃ m' cnt', MapP W bB m' cnt' ∧ Climbed c frm f f.ps.length m m' cnt cnt' ∧ GrownBy w6 W (some bB)
 | _, _ => False
theorem StageR.grown {c : List Ent} {frm : Uid} {f : Ent} {m : zby → Bool} {cnt bB : Nat} {w6 W : World} {vs : List Value} (h : StageR c frm f m cnt bB w6 vs W) : GrownBy w6 W (some bB) := by
 match vs, h with
 | [], h => exact GrownBy.of_ext _ (show Ext w6 W from h)
 | [_], ⟨_, _, _, _, h⟩ => exact h
 | _ :: _ :: _, h => exact h.elim
end Go.Proofs.YtebfoimbdljbmaaGreatDoor

/-
  The store of entities: what the program's Load leaves in memory. The conditions: the entities lie in memory as they should, and are few.
-/
namespace Go.Proofs.YtebfoimbdljbmaaGreatDoor
open Go.RowKit
structure Fam (W : World) (g : Nat) (c : List Ent) : Prop where
 ex : ∃ (S : Nat → Prop) (bA bB : Nat) (vc : Value) (m : zby → Bool) (cnt : Nat), StoreAt S g bA bB c vc W ∧ MapP W bB m cnt ∧ (∀ u q, m (u, q) = true ↔ UpTo c u q) ∧ cnt ≤ 1048000
 tidy : Tidy c
theorem Fam.ext {W W' : World} {g : Nat} {c : List Ent} (h : Fam W g c) (k : Ext W W') : Fam W' g c := by
 obtain ⟨S, bA, bB, vc, m, cnt, h1, h2, h3⟩ := h.ex
 exact ⟨⟨S, bA, bB, vc, m, cnt, h1.ext k, h2.ext k, h3⟩, h.tidy⟩
def MarksUpTo (c : List Ent) (i : Nat) (m : zby → Bool) : Prop := ∀ u q, m (u, q) = true ↔ (∃ j, j < i ∧ (c.map Ent.uid)[j]? = some u) ∧ UpTo c u q
theorem MarksUpTo.free {c : List Ent} (hn : (c.map Ent.uid).Nodup) {i : Nat} {m : zby → Bool} (h : MarksUpTo c i m) {x : Ent} (hx : c[i]? = some x) (q : Uid) : m (x.uid, q) = false := by
 cases hm : m (x.uid, q) with
 | false => rfl
 | true =>
  obtain ⟨⟨j, hj, hju⟩, _⟩ := (h _ _).1 hm
  have h1 := zb6 hn hju
  have h2 := zb6 (i := i) (u := x.uid) hn (by rw [List.getElem?_map, hx]; rfl)
  rw [h1] at h2
  injection h2 with h2
  omega
theorem MarksUpTo.step {c : List Ent} (ht : Tidy c) {i : Nat} {m m' : zby → Bool} {cnt cnt' : Nat} (h : MarksUpTo c i m) {x : Ent} (hx : c[i]? = some x) (k : Climbed c x.uid x x.ps.length m m' cnt cnt') : MarksUpTo c (i + 1) m' := fun u q => by
 have hxc := List.mem_of_getElem? hx
 by_cases hu : u = x.uid
 ·subst hu
  have h1 := Marked.all ht.names hxc (fun p hp => ht.pars x hxc p hp) (m := ofFrom x.uid m) (fun q => h.free ht.names hx q) k.marked q
  have h1 : m' (x.uid, q) = true ↔ UpTo c x.uid q := h1
  rw [h1]
  exact ⟨fun h => ⟨⟨i, by omega, by rw [List.getElem?_map, hx]; rfl⟩, h⟩, fun h => h.2⟩
 ·rw [k.other (u, q) hu, h u q]
  constructor
  ·rintro ⟨⟨j, hj, hju⟩, h2⟩
   exact ⟨⟨j, by omega, hju⟩, h2⟩
  ·rintro ⟨⟨j, hj, hju⟩, h2⟩
   refine ⟨⟨j, ?_, hju⟩, h2⟩
   rcases Nat.lt_or_ge j i with h3 | h3
   ·exact h3
   ·have : j = i := by omega
    subst this
    rw [List.getElem?_map, hx] at hju
    exact absurd (Option.some.inj hju).symm hu
theorem MarksUpTo.all {c : List Ent} {m : zby → Bool} (h : MarksUpTo c c.length m) (u q : Uid) : m (u, q) = true ↔ UpTo c u q := by
 rw [h u q]
 refine ⟨fun h => h.2, fun hup => ⟨?_, hup⟩⟩
 obtain ⟨j, hj⟩ := List.mem_iff_getElem?.1 hup.names.1
 exact ⟨j, by have := (List.getElem?_eq_some_iff.1 hj).1; simpa using this, hj⟩
def StageU (c : List Ent) (bA k : Nat) (w3 : World) : List Value → World → Prop
 | [], W => Ext w3 W
 | [_], W => MapU W bA (idx ((c.map Ent.uid).take (k + 1))) (k + 1) ∧ GrownBy w3 W (some bA)
 | _, _ => False
theorem StageU.grown {c : List Ent} {bA k : Nat} {w3 W : World} {vs : List Value} (h : StageU c bA k w3 vs W) : GrownBy w3 W (some bA) := by
 match vs, h with
 | [], h => exact GrownBy.of_ext _ (show Ext w3 W from h)
 | [_], h => exact h.2
 | _ :: _ :: _, h => exact h.elim
end Go.Proofs.YtebfoimbdljbmaaGreatDoor

/-
  What the program tells of a store: an entity by its name, all of them, whether one is in another one. The conditions: the store lies in memory as it should.
-/
namespace Go.Proofs.YtebfoimbdljbmaaGreatDoor
open Go.RowKit
section
open Go.Maps
end
def zeroEnt : List Value := za1 (ByteArray.empty, ByteArray.empty) (.slice none 0 0) zeroCells
/-! ### all of them -/
def OwnD {α : Type} (R : Rep α) (T : TypeId) (base : Nat) (W : World) (v : Value) (l : List α) : Prop :=
 ∃ xs, W.ownsRow base T R.size v l.length xs ∧ R.Flat (MadeU base W v) W l xs
section
variable {α : Type} {R : Rep α} {T : TypeId} {base : Nat} {W W' : World} {v v' : Value} {l : List α}
theorem OwnD.nil : OwnD R T base W (.slice none 0 0) [] := ⟨[], World.ownsRow_nil _ _ _ _, rfl⟩
theorem MadeU.ext {b : Nat} (h : MadeU base W v b) (k : Ext W W') : MadeU base W' v b := ⟨h.1, (h.fresh.ext k).2, h.2.2⟩
theorem OwnD.ext (h : OwnD R T base W v l) (k : Ext W W') : OwnD R T base W' v l := by
 obtain ⟨xs, h1, h2⟩ := h
 exact ⟨xs, zah h1 k, (Rep.Flat.alike (Alike.of_ext k fun b hb => hb.lt) h2).mono fun b hb => hb.ext k⟩
theorem OwnD.shape (h : OwnD R T base W v l) : ∃ A cap, v = .slice A l.length cap := by
 obtain ⟨xs, h1, _⟩ := h
 exact zap h1
theorem OwnD.lt (h : OwnD R T base W v l) : ∀ b, v.ownBlock = some b → base ≤ b ∧ b < W.heap.size := by
 obtain ⟨xs, h1, _⟩ := h
 exact h1.lt
theorem OwnD.rows (h : OwnD R T base W v l) (hl : l.length ≤ LIM) : R.RowsAt (FreshU base W) W l v := by
 obtain ⟨xs, h1, h2⟩ := h
 exact own_rows h1 h2 hl (fun b hb => hb.fresh) fun b hb => own_free h1 hb
theorem OwnD.push {x : α} {xs cs : List Value} (hf : R.Flat (MadeU base W v) W l xs) (hx : R.At (MadeU base W v) W x cs) (hg : GrownBy W W' v.ownBlock)
  (ho : W'.ownsRow base T R.size v' (l.length + 1) (xs ++ cs)) (hv : v'.ownBlock = v.ownBlock ∨ v'.ownBlock = some W.heap.size) : OwnD R T base W' v' (l ++ [x]) := by
 have hal : Alike (MadeU base W v) W W' := fun b hb => hg.block b hb.lt fun e => hb.2.2 e.symm
 refine ⟨xs ++ cs, by simpa using ho, ?_⟩
 refine Rep.Flat.mono (S := MadeU base W v) (fun b hb => ⟨hb.1, (hb.fresh.grown hg fun e => hb.2.2 e.symm).2, fun e => ?_⟩) (Rep.Flat.snoc (R.alike hx hal) (Rep.Flat.alike hal hf))
 rcases hv with hv | hv
 ·exact hb.2.2 (hv ▸ e)
 ·rw [hv] at e; injection e with e; have := hb.lt; omega
end
end Go.Proofs.YtebfoimbdljbmaaGreatDoor

/-
  Whether one is, or is below, another one, by the program's store. The conditions: the store lies in memory as it should.
-/
namespace Go.Proofs.YtebfoimbdljbmaaGreatDoor
open Go.RowKit
open Lib renaming hid → q_
set_option maxRecDepth 100000
set_option maxHeartbeats 4000000
open Classical in
noncomputable def inB (c : List Ent) (a b : Uid) : Bool := decide (a = b) || decide (UpTo c a b)
theorem inN_ok (x y : Uid) (w : World) : Calls Tryz.prog 44 #[.pointer none, valU x, valU y] w fun e w' => e = .returned (.bool (decide (x = y))) ∧ Ext w w' := by
 obtain ⟨t1, i1⟩ := x
 obtain ⟨t2, i2⟩ := y
 unfold valU
 go_enter Tryz.func44, Tryz.ntmps44
 go_wp2_with fail
 obtain ⟨W0, hW0⟩ : ∃ W0, W0 = (w.alloc (.cells #[.string t1, .string i1] 23)).alloc (.cells #[.string t2, .string i2] 23) := ⟨_, rfl⟩
 have h2 := heap2 w (.cells #[.string t1, .string i1] 23) (.cells #[.string t2, .string i2] 23)
 rw [← hW0] at h2 ⊢
 obtain ⟨q0, q1, qs, qx⟩ := h2
 have HQX := q_ qx
 have c0 := cell_of_row _ _ 0 _ _ _ q0
 have c1 := cell_of_row _ _ 1 _ _ _ q0
 have c2 := cell_of_row _ _ 0 _ _ _ q1
 have c3 := cell_of_row _ _ 1 _ _ _ q1
 simp at c0 c1 c2 c3
 have r0 := zav c0
 have r1 := zav c1
 have r2 := zav c2
 have r3 := zav c3
 clear q0 q1 qs qx hW0 c0 c1 c2 c3
 obtain ⟨tb, htb⟩ : ∃ tb, decide ((t1, i1) = ((t2, i2) : Uid)) = tb := ⟨_, rfl⟩
 have tq : ∀ w, (binOp .eql 23 (.agg #[.string t1, .string i1]) (.agg #[.string t2, .string i2])).run Tryz.prog w = .ok (.bool tb) w := fun w => by rw [← htb]; exact eqlU (t1, i1) (t2, i2) w
 have tq' : ∀ w, (Op.equalIn 10000 23 (.agg #[.string t1, .string i1]) (.agg #[.string t2, .string i2])).run Tryz.prog w = .ok tb w := fun w => by rw [← htb]; exact eqlU_in (t1, i1) (t2, i2) w
 have tg : ∀ (p q : Operand) w, (eqGuard .eql 23 p q (.agg #[.string t1, .string i1]) (.agg #[.string t2, .string i2])).run Tryz.prog w = .ok () w := fun p q w => guardU _ p q (t1, i1) (t2, i2) w
 have HT := q_ htb
 clear htb
 cases tb with
 | true =>
  refine zbt (by kernel_rfl) (by kernel_rfl) ?_
  repeat (go_big_quiet_step (fail))
  refine wpQuiet_nil ?_
  intro w2 hw2
  have HX2 := q_ hw2
  clear tq tq' tg hw2 r0 r1 r2 r3
  go_wp2_with fail
  refine bodyPost_ret (v := .bool true) (by kernel_rfl) rfl ?_
  exact ⟨by rw [HT.out], HQX.out.trans HX2.out⟩
 | false =>
  refine zbt (by kernel_rfl) (by kernel_rfl) ?_
  repeat (go_big_quiet_step (fail))
  refine wpQuiet_nil ?_
  intro w2 hw2
  have HX2 := q_ hw2
  clear tq tq' tg hw2 r0 r1 r2 r3
  go_wp2_with fail
  refine bodyPost_ret (v := .bool false) (by kernel_rfl) rfl ?_
  exact ⟨by rw [HT.out], HQX.out.trans HX2.out⟩
theorem inF_ok (g : Nat) (c : List Ent) (x y : Uid) (w : World) (hx : zaw x) (hy : zaw y) (h : Fam w g c) : Calls Tryz.prog 44 #[.pointer (some ⟨g, 0, none⟩), valU x, valU y] w fun e w' => e = .returned (.bool (inB c x y)) ∧ Ext w w' := by
 obtain ⟨⟨S, bA, bB, vc, m, cnt, hst, hmp, hm, hcnt⟩, ht⟩ := h
 have HSt := q_ hst
 have HMp := q_ hmp
 have HM := q_ hm
 have HFp : Hid (FitP (x, y)) := q_ ⟨hx, hy⟩
 clear hst hmp hm hcnt ht hx hy
 obtain ⟨t1, i1⟩ := x
 obtain ⟨t2, i2⟩ := y
 unfold valU
 go_enter Tryz.func44, Tryz.ntmps44
 go_wp2_with fail
 obtain ⟨W0, hW0⟩ : ∃ W0, W0 = (w.alloc (.cells #[.string t1, .string i1] 23)).alloc (.cells #[.string t2, .string i2] 23) := ⟨_, rfl⟩
 have h2 := heap2 w (.cells #[.string t1, .string i1] 23) (.cells #[.string t2, .string i2] 23)
 rw [← hW0] at h2 ⊢
 obtain ⟨q0, q1, qs, qx⟩ := h2
 have HQX := q_ qx
 have c0 := cell_of_row _ _ 0 _ _ _ q0
 have c1 := cell_of_row _ _ 1 _ _ _ q0
 have c2 := cell_of_row _ _ 0 _ _ _ q1
 have c3 := cell_of_row _ _ 1 _ _ _ q1
 simp at c0 c1 c2 c3
 have r0 := zav c0
 have r1 := zav c1
 have r2 := zav c2
 have r3 := zav c3
 have r4 := zav (cell_of_row _ _ 2 _ _ _ (HSt.out.ext qx).box)
 simp at r4
 obtain ⟨tm, htm⟩ : ∃ tm, m ((t1, i1), (t2, i2)) = tm := ⟨_, rfl⟩
 have r5 : ∀ d os, (Instr.lookup 83 (.map (some bB)) (.agg #[.string t1, .string i1, .string t2, .string i2]) false).run Tryz.prog (Sort.grow (zcb W0 d) os) = .ok (.bool tm) (Sort.grow (zcb W0 d) os) := fun d os => by
  have h := ((HMp.out.ext qx).ext (zb9 W0 d os)).look HFp.out
  rw [htm] at h
  exact h
 have HTm := q_ htm
 clear htm
 clear q0 q1 qs qx hW0 c0 c1 c2 c3
 obtain ⟨tb, htb⟩ : ∃ tb, decide ((t1, i1) = ((t2, i2) : Uid)) = tb := ⟨_, rfl⟩
 have tq : ∀ w, (binOp .eql 23 (.agg #[.string t1, .string i1]) (.agg #[.string t2, .string i2])).run Tryz.prog w = .ok (.bool tb) w := fun w => by rw [← htb]; exact eqlU (t1, i1) (t2, i2) w
 have tq' : ∀ w, (Op.equalIn 10000 23 (.agg #[.string t1, .string i1]) (.agg #[.string t2, .string i2])).run Tryz.prog w = .ok tb w := fun w => by rw [← htb]; exact eqlU_in (t1, i1) (t2, i2) w
 have tg : ∀ (p q : Operand) w, (eqGuard .eql 23 p q (.agg #[.string t1, .string i1]) (.agg #[.string t2, .string i2])).run Tryz.prog w = .ok () w := fun p q w => guardU _ p q (t1, i1) (t2, i2) w
 have HT := q_ htb
 clear htb
 cases tb with
 | true =>
  refine zbt (by kernel_rfl) (by kernel_rfl) ?_
  repeat (go_big_quiet_step (fail))
  refine wpQuiet_nil ?_
  intro w2 hw2
  have HX2 := q_ hw2
  clear tq tq' tg hw2 r0 r1 r2 r3 r4 r5
  go_wp2_with fail
  refine bodyPost_ret (v := .bool true) (by kernel_rfl) rfl ?_
  exact ⟨by unfold inB; rw [HT.out]; rfl, HQX.out.trans HX2.out⟩
 | false =>
  have hin : inB c (t1, i1) (t2, i2) = tm := by
   unfold inB
   rw [HT.out, Bool.false_or, ← HTm.out]
   by_cases hup : UpTo c (t1, i1) (t2, i2)
   ·simp [hup, (HM.out _ _).2 hup]
   ·simp only [hup, decide_false]
    cases hmm : m ((t1, i1), (t2, i2)) with
    | false => rfl
    | true => exact absurd ((HM.out _ _).1 hmm) hup
  have HIn := q_ hin
  clear hin
  refine zbt (by kernel_rfl) (by kernel_rfl) ?_
  repeat (go_big_quiet_step (fail))
  refine wpQuiet_nil ?_
  intro w2 hw2
  have HX2 := q_ hw2
  clear tq tq' tg hw2 r0 r1 r2 r3 r4 r5
  go_wp2_with fail
  refine bodyPost_ret (v := .bool tm) (by kernel_rfl) rfl ?_
  exact ⟨by rw [HIn.out], HQX.out.trans HX2.out⟩
end Go.Proofs.YtebfoimbdljbmaaGreatDoor
