/-
  The marking of what is above an entity. The conditions: the store lies in memory as it should; its entities' names are apart, their parents are there.
-/
import Derived.Test.YtebfoimbdljbmaaGreatDoorGi
import Derived.Test.YtebfoimbdljbmaaGreatDoorGh
import Derived.Test.YtebfoimbdljbmaaGreatDoorLaw5tQ
namespace Go.Proofs.YtebfoimbdljbmaaGreatDoor
open Go.RowKit
open Lib renaming hid → q_
set_option maxRecDepth 100000
set_option maxHeartbeats 4000000
theorem zcg {P : Program} {o : Oper} {a : Act} {w : World} {x : Operand} {ad : Addr} (ho : o.op = .nilCheck x) (hx : a.eval x = .pointer (some ad)) : (execOp a.eval o).run P w = .ok (.value (.pointer (some ad))) w := by
 unfold execOp
 simp [ho, hx]
theorem exec_lookup {P : Program} {o : Oper} {a : Act} {w : World} {t : TypeId} {x y : Operand} {c : Bool} {v k r : Value} (ho : o.op = .lookup t x y c) (hx : a.eval x = v) (hy : a.eval y = k) (hr : (Instr.lookup t v k c).run P w = .ok r w) : (execOp a.eval o).run P w = .ok (.value r) w := by
 unfold execOp
 simp [ho, hx, hy, hr]
theorem exec_not {P : Program} {o : Oper} {a : Act} {w : World} {T : TypeId} {x : Operand} {r : Bool} (ho : o.op = .unOp .not T x) (hx : a.eval x = .bool r) : (execOp a.eval o).run P w = .ok (.value (.bool (!r))) w := by
 unfold execOp
 simp [ho, hx, Op.unary]
theorem map_three {f : Operand → Value} {x y z : Operand} {v u t : Value} (h : f x = v) (k : f y = u) (l : f z = t) : #[x, y, z].map f = #[v, u, t] := by simp [h, k, l]
theorem wp_mapUpdate {P : Program} {o : Oper} {a : Act} {w w' : World} {K : Act → World → Prop} {Q : Exit → Act → World → Prop} {t : TypeId} {x y z : Operand} {v k u : Value} (ho : o.op = .mapUpdate t x y z) (hx : a.eval x = v) (hy : a.eval y = k) (hz : a.eval z = u) (hr : (Instr.mapUpdate t v k u).run P w = .ok () w')
  (hk : K (a.put o.dst undef) w') : o.wp P a w K Q := by
 unfold Oper.wp execOp
 simp [ho, hx, hy, hz, hr]
 exact hk
theorem zdh (g : Nat) : (∀ w, (Instr.fieldAt 85 (.pointer (some ⟨g, 0, none⟩)) 0).run Tryz.prog w = .ok (.pointer (some ⟨g, 0, none⟩)) w) ∧ (∀ w, (Instr.fieldAt 85 (.pointer (some ⟨g, 0, none⟩)) 1).run Tryz.prog w = .ok (.pointer (some ⟨g, 1, none⟩)) w) ∧
  (∀ w, (Instr.fieldAt 85 (.pointer (some ⟨g, 0, none⟩)) 2).run Tryz.prog w = .ok (.pointer (some ⟨g, 2, none⟩)) w) := by
 refine ⟨?_, ?_, ?_⟩ <;> (intro w; simp [Instr.fieldAt, go_sem])
theorem Tryz.agg22 : ∀ w, (isAgg 41).run Tryz.prog w = .ok false w := fun _ => by kernel_rfl
theorem Tryz.agg87 : ∀ w, (isAgg 82).run Tryz.prog w = .ok false w := fun _ => by kernel_rfl
theorem Tryz.agg99 : ∀ w, (isAgg 83).run Tryz.prog w = .ok false w := fun _ => by kernel_rfl
theorem Tryz.agg107 : ∀ w, (isAgg 122).run Tryz.prog w = .ok true w := fun _ => by kernel_rfl
theorem Tryz.size107 : ∀ w, (Go.sizeOf 122).run Tryz.prog w = .ok 4 w := fun _ => by kernel_rfl
theorem lst15' {α : Type} {l : List α} (h : l.length = 15) : ∃ a0 a1 a2 a3 a4 a5 a6 a7 a8 a9 a10 a11 a12 a13 a14, l = [a0, a1, a2, a3, a4, a5, a6, a7, a8, a9, a10, a11, a12, a13, a14] := by
 match l, h with
 | [_, _, _, _, _, _, _, _, _, _, _, _, _, _, _], _ => exact ⟨_, _, _, _, _, _, _, _, _, _, _, _, _, _, _, rfl⟩
theorem lst6 {α : Type} {l : List α} (h : l.length = 6) : ∃ a0 a1 a2 a3 a4 a5, l = [a0, a1, a2, a3, a4, a5] := by
 match l, h with
 | [_, _, _, _, _, _], _ => exact ⟨_, _, _, _, _, _, rfl⟩
structure StoreAt (S : Nat → Prop) (g bA bB : Nat) (c : List Ent) (vc : Value) (W : World) : Prop where
 box : W.heap[g]? = some (.cells #[vc, .map (some bA), .map (some bB)] 85 (0, 0))
 rows : entR.RowsAt S W c vc
 at' : MapU W bA (idx (c.map Ent.uid)) c.length
 old : ∀ b, S b → b < W.heap.size ∧ b ≠ bB
 apart : g ≠ bB ∧ bA ≠ bB
theorem StoreAt.grown {S : Nat → Prop} {g bA bB : Nat} {c : List Ent} {vc : Value} {W W' : World} (h : StoreAt S g bA bB c vc W) (k : GrownBy W W' (some bB)) : StoreAt S g bA bB c vc W' :=
 ⟨(k.block _ (zaf h.box) fun e => h.apart.1 (Option.some.inj e)).trans h.box, h.rows.alike fun b hb => k.block b (h.old b hb).1 fun e => (h.old b hb).2 (Option.some.inj e),
  h.at'.block (k.block _ h.at'.lt fun e => h.apart.2 (Option.some.inj e)), fun b hb => ⟨Nat.lt_of_lt_of_le (h.old b hb).1 k.size, (h.old b hb).2⟩, h.apart⟩
theorem StoreAt.ext {S : Nat → Prop} {g bA bB : Nat} {c : List Ent} {vc : Value} {W W' : World} (h : StoreAt S g bA bB c vc W) (k : Ext W W') : StoreAt S g bA bB c vc W' := h.grown (GrownBy.of_ext _ k)
structure Tidy (c : List Ent) : Prop where
 names : (c.map Ent.uid).Nodup
 pars : ∀ e ∈ c, ∀ p ∈ e.ps, p ∈ c.map Ent.uid
 len : c.length ≤ 1000
 plen : ∀ e ∈ c, e.ps.length ≤ 1000
def zcz (s : Uid) (m : zea → Bool) : Uid → Bool := fun q => m (s, q)
structure Climbed (c : List Ent) (frm : Uid) (x : Ent) (k : Nat) (m m' : zea → Bool) (cnt cnt' : Nat) : Prop where
 marked : Marked c x.uid k x (zcz frm m) (zcz frm m')
 other : ∀ p : zea, p.1 ≠ frm → m' p = m p
 count : cnt' + zfi (c.map Ent.uid) (zcz frm m') ≤ cnt + zfi (c.map Ent.uid) (zcz frm m)
def ClimbPost (c : List Ent) (frm : Uid) (x : Ent) (m : zea → Bool) (cnt bB : Nat) (W : World) (e : Ending) (W' : World) : Prop :=
 e = .returned (.tuple #[]) ∧ ∃ m' cnt', MapP W' bB m' cnt' ∧ Climbed c frm x x.ps.length m m' cnt cnt' ∧ GrownBy W W' (some bB)
def markP (frm p : Uid) (m : zea → Bool) : zea → Bool := fun y => decide (y = (frm, p)) || m y
theorem ofFrom_mark (frm p : Uid) (m : zea → Bool) : zcz frm (markP frm p m) = fun q => decide (q = p) || zcz frm m q := by
 funext q
 unfold zcz markP
 congr 1
 simp
theorem Climbed.step {c : List Ent} (ht : Tidy c) {frm : Uid} {x f : Ent} {k : Nat} {m m' m2 : zea → Bool} {cnt cnt' cnt2 : Nat} (h : Climbed c frm x k m m' cnt cnt') (hx : x ∈ c) {p : Uid} (hp : x.ps[k]? = some p) (hm : m' (frm, p) = false) (hf : f ∈ c) (hfp : f.uid = p)
  (h2 : Climbed c frm f f.ps.length (markP frm p m') m2 (cnt' + 1) cnt2) : Climbed c frm x (k + 1) m m2 cnt cnt2 := by
 have hpn := ht.pars x hx p (List.mem_of_getElem? hp)
 refine ⟨Marked.step ht.names h.marked hp hf hfp (.one ⟨x, hx, rfl, List.mem_of_getElem? hp, hpn⟩) ?_, fun y hy => ?_, ?_⟩
 ·have := h2.marked
  rw [ofFrom_mark, hfp] at this
  exact this
 ·rw [h2.other y hy, ← h.other y hy]
  unfold markP
  have : y ≠ (frm, p) := fun e => hy (by rw [e])
  simp [this]
 ·have h3 := leftN_mark (us := c.map Ent.uid) (m := zcz frm m') hpn hm
  have h4 := h2.count
  rw [ofFrom_mark] at h4
  have h5 := h.count
  omega
theorem Climbed.skip {c : List Ent} {frm : Uid} {x : Ent} {k : Nat} {m m' : zea → Bool} {cnt cnt' : Nat} (h : Climbed c frm x k m m' cnt cnt') {p : Uid} (hp : x.ps[k]? = some p) (hm : m' (frm, p) = true) : Climbed c frm x (k + 1) m m' cnt cnt' :=
 ⟨h.marked.skip hp hm, h.other, h.count⟩
theorem Climbed.start {c : List Ent} {frm : Uid} {x : Ent} {m : zea → Bool} {cnt : Nat} : Climbed c frm x 0 m m cnt cnt := ⟨Marked.start, fun _ _ => rfl, Nat.le_refl _⟩
def StageM (bB : Nat) (w5 : World) (m : zea → Bool) (cnt : Nat) : List Value → World → Prop
 | [], W => Ext w5 W
 | [_], W => MapP W bB m cnt ∧ GrownBy w5 W (some bB)
 | _, _ => False
theorem StageM.grown {bB : Nat} {w5 W : World} {m : zea → Bool} {cnt : Nat} {vs : List Value} (h : StageM bB w5 m cnt vs W) : GrownBy w5 W (some bB) := by
 match vs, h with
 | [], h => exact GrownBy.of_ext _ (show Ext w5 W from h)
 | [_], h => exact h.2
 | _ :: _ :: _, h => exact h.elim
def StageR (c : List Ent) (frm : Uid) (f : Ent) (m : zea → Bool) (cnt bB : Nat) (w6 : World) : List Value → World → Prop
 | [], W => Ext w6 W
 | [_], W => ∃ m' cnt', MapP W bB m' cnt' ∧ Climbed c frm f f.ps.length m m' cnt cnt' ∧ GrownBy w6 W (some bB)
 | _, _ => False
theorem StageR.grown {c : List Ent} {frm : Uid} {f : Ent} {m : zea → Bool} {cnt bB : Nat} {w6 W : World} {vs : List Value} (h : StageR c frm f m cnt bB w6 vs W) : GrownBy w6 W (some bB) := by
 match vs, h with
 | [], h => exact GrownBy.of_ext _ (show Ext w6 W from h)
 | [_], ⟨_, _, _, _, h⟩ => exact h
 | _ :: _ :: _, h => exact h.elim
theorem climb_ok (S : Nat → Prop) (g bA bB : Nat) (c : List Ent) (vc : Value) (ht : Tidy c) (frm : Uid) (hfrm : FitU frm) (n : Nat) : ∀ (x : Ent) (cs : List Value) (m : zea → Bool) (cnt : Nat) (W : World), zfi (c.map Ent.uid) (zcz frm m) < n → x ∈ c → StoreAt S g bA bB c vc W → MapP W bB m cnt →
  cnt + zfi (c.map Ent.uid) (zcz frm m) ≤ 1048000 → entR.At S W x cs →
  Calls Tryz.prog 37 #[.pointer (some ⟨g, 0, none⟩), zeu frm, .agg cs.toArray] W (ClimbPost c frm x m cnt bB W) := by
 induction n with
 | zero => intro x cs m cnt W hn; omega
 | succ n ih =>
  intro x cs m cnt W hn hxc hst hmp hcnt hx
  have HTy := q_ ht
  have HFr := q_ hfrm
  have IH := q_ ih
  have Hn := q_ hn
  have Hxc := q_ hxc
  have HSt := q_ hst
  have HMp := q_ hmp
  have Hcnt := q_ hcnt
  obtain ⟨pv, acs, rfl, hfu, hpr, hat⟩ := hx
  obtain ⟨ka, ba, na, ta, uta, uia, Aa, la, ca, Ab, lb, cb, rfl⟩ := hat.shape
  obtain ⟨A1, c1, rfl, ⟨p0, p1, p2⟩, hrow⟩ := hpr
  rw [zaq] at p0
  rw [zaj] at p2
  have HRow := q_ hrow
  clear ih hn hxc hst hmp hcnt hfu hat hrow ht hfrm
  obtain ⟨fs, fi⟩ := frm
  unfold zeu
  go_enter Tryz.func37, Tryz.ntmps37
  go_wp2_with fail
  obtain ⟨W0, hW0⟩ : ∃ W0, W0 = (W.alloc (.cells #[.string fs, .string fi] 23)).alloc (.cells #[.string x.uid.1, .string x.uid.2, .slice A1 x.ps.length c1, .int .i64 ka, .bool ba, .int .i64 na, .string ta, .string uta, .string uia, .slice Aa la ca, .slice Ab lb cb] 87) := ⟨_, rfl⟩
  have h2 := heap2 W (.cells #[.string fs, .string fi] 23) (.cells #[.string x.uid.1, .string x.uid.2, .slice A1 x.ps.length c1, .int .i64 ka, .bool ba, .int .i64 na, .string ta, .string uta, .string uia, .slice Aa la ca, .slice Ab lb cb] 87)
  rw [← hW0] at h2 ⊢
  obtain ⟨q0, q1, qs, qx⟩ := h2
  have HQ0 := q_ q0
  have HQX := q_ qx
  clear q0 q1 qs qx hW0
  go_loopw [12] (fun i' wr => ∃ (k : Nat) (m' : zea → Bool) (cnt' : Nat), k ≤ x.ps.length ∧ i' = .int .i64 k ∧ Hid (MapP wr bB m' cnt') ∧ Hid (Climbed c (fs, fi) x k m m' cnt cnt') ∧ Hid (GrownBy W0 wr (some bB))) (fun i' _ => x.ps.length - (intOf i').toNat)
  case atStart => exact ⟨0, m, cnt, Nat.zero_le _, rfl, q_ (HMp.out.ext HQX.out), q_ Climbed.start, q_ (GrownBy.of_ext _ (Ext.refl _))⟩
  case round =>
   obtain ⟨k, m', cnt', hk, rfl, HM', HCl, HGr⟩ := hrel
   have HG : Hid (GrownBy W wr (some bB)) := q_ ((GrownBy.of_ext _ HQX.out).trans HGr.out)
   by_cases hlt : k < x.ps.length
   ·obtain ⟨pb, po, rfl, hSb, hrow⟩ := HRow.out (by omega)
    obtain ⟨p, hp⟩ : ∃ p, x.ps[k]? = some p := ⟨_, List.getElem?_eq_getElem hlt⟩
    obtain ⟨pcs, hpc, rfl, hpf⟩ := hrow k p hp
    have HAl : Hid (Alike S W wr) := q_ fun b hb => HG.out.block b (HSt.out.old b hb).1 fun e => (HSt.out.old b hb).2 (Option.some.inj e)
    have k0 : wr.cell? ⟨pb, po + k * 2, none⟩ = some (.string p.1) := (hpc.alike hSb HAl.out) 0 _ rfl
    have k1 : wr.cell? ⟨pb, po + k * 2 + 1, none⟩ = some (.string p.2) := (hpc.alike hSb HAl.out) 1 _ rfl
    have HSr := q_ (HSt.out.grown HG.out)
    have HBox : Hid (wr.heap[W.heap.size]? = some (.cells #[.string fs, .string fi] 23 (0, 0))) := q_ ((HGr.out.block _ (zaf HQ0.out) fun e => by have := HMp.out.lt; injection e with e; omega).trans HQ0.out)
    have f0 : ∀ o, (wr.alloc o).cell? ⟨W.heap.size, 0, none⟩ = some (.string fs) := fun o => (World.cell?_of_block (w := wr) (heap_alloc_old _ _ (zaf HBox.out))).trans (cell_of_row _ _ 0 _ _ _ HBox.out)
    have f1 : ∀ o, (wr.alloc o).cell? ⟨W.heap.size, 1, none⟩ = some (.string fi) := fun o => (World.cell?_of_block (w := wr) (heap_alloc_old _ _ (zaf HBox.out))).trans (cell_of_row _ _ 1 _ _ _ HBox.out)
    have Hp := q_ hp
    have Hlt := q_ hlt
    have HPf := q_ hpf
    clear hp hpc hrow hpf
    go_wp2_with fail
    obtain ⟨w4, hw4⟩ : ∃ w4, w4 = (wr.alloc (.cells #[.string p.1, .string p.2] 23)).alloc (.cells #[.string fs, .string fi, .string p.1, .string p.2] 122) := ⟨_, rfl⟩
    have h2 := heap2 wr (.cells #[.string p.1, .string p.2] 23) (.cells #[.string fs, .string fi, .string p.1, .string p.2] 122)
    rw [← hw4] at h2 ⊢
    obtain ⟨q0, q1, qs, qx⟩ := h2
    have HP0 := q_ q0
    have HP1 := q_ q1
    have HX4 := q_ qx
    have HS4 := q_ (HSr.out.ext qx)
    have HM4 := q_ (HM'.out.ext qx)
    have HB4 := q_ ((qx.block _ (zaf HBox.out)).trans HBox.out)
    have HFp : Hid (FitP ((fs, fi), p)) := q_ ⟨HFr.out, HPf.out⟩
    have hcle : cnt' ≤ 1048000 := by have := HCl.out.count; have := Hcnt.out; omega
    clear q0 q1 qs qx hw4 k0 k1 f0 f1
    obtain ⟨tb, htb⟩ : ∃ tb, m' ((fs, fi), p) = tb := ⟨_, rfl⟩
    have HT := q_ htb
    clear htb
    refine zch 7 [] [.pointer (some ⟨g, 0, none⟩), .pointer (some ⟨g, 0, none⟩), .pointer (some ⟨g, 2, none⟩), .map (some bB), .agg #[.string fs, .string fi, .string p.1, .string p.2], .bool tb, .bool (!tb)] (fun _ W => Ext w4 W) (by kernel_rfl) (by kernel_rfl) (by kernel_rfl) (by kernel_rfl)
     (show Ext w4 w4.drew from ⟨⟨rfl, rfl, rfl, Nat.le_refl _, fun _ _ => rfl⟩, Nat.le_succ _⟩) (fun i' op hi hn ho vs W a hRR hold hat => ?_) (fun k' i' op hk ho vs W a hvl hRR hold hat Q' K hK => by simp at hk) ?_
    ·rcases (by omega : i' = 0 ∨ i' = 1 ∨ i' = 2 ∨ i' = 3 ∨ i' = 4 ∨ i' = 5 ∨ i' = 6) with rfl | rfl | rfl | rfl | rfl | rfl | rfl <;> obtain rfl := Option.some.inj ho
     ·exact zbd rfl (hold 0 (by kernel_rfl))
     ·exact zcg rfl (hat 0 19 (by omega) (by kernel_rfl) (by kernel_rfl))
     ·exact za8 _ _ _ rfl (hat 1 20 (by omega) (by kernel_rfl) (by kernel_rfl)) (zdh g).2.2
     ·exact za9 83 _ rfl g 2 (hat 2 21 (by omega) (by kernel_rfl) (by kernel_rfl)) Tryz.agg99 (cell_of_row _ _ 2 _ _ _ (HS4.out.ext hRR).box)
     ·exact zat 122 _ rfl (wr.heap.size + 1) 0 (hold 8 (by kernel_rfl)) Tryz.agg107 Tryz.size107 rfl (zak ((hRR.block _ (zaf HP1.out)).trans HP1.out))
     ·exact exec_lookup rfl (hat 3 22 (by omega) (by kernel_rfl) (by kernel_rfl)) (hat 4 23 (by omega) (by kernel_rfl) (by kernel_rfl)) (HT.out ▸ (HM4.out.ext hRR).look HFp.out)
     ·exact exec_not rfl (hat 5 24 (by omega) (by kernel_rfl) (by kernel_rfl))
    intro zs vs w5 hzl hvl hRR hzs
    obtain ⟨z0, z1, z2, z3, z4, z5, z6, rfl⟩ := lst7 hzl
    obtain rfl : z6 = .bool (!tb) := hzs 6 (by omega)
    have HX5 := q_ hRR
    have HP0' := q_ ((hRR.block _ (zaf HP0.out)).trans HP0.out)
    have HP1' := q_ ((hRR.block _ (zaf HP1.out)).trans HP1.out)
    have HB5 := q_ ((hRR.block _ (zaf HB4.out)).trans HB4.out)
    have HS5 := q_ (HS4.out.ext hRR)
    have HM5 := q_ (HM4.out.ext hRR)
    have HG5 : Hid (GrownBy W0 w5 (some bB)) := q_ (HGr.out.trans (GrownBy.of_ext _ (HX4.out.trans hRR)))
    clear hRR hzs hzl hvl HP0 HP1 HB4 HS4 HM4
    simp only [List.take, List.drop, za0, Act.put, List.setIfInBounds_toArray, List.set_cons_zero, List.set_cons_succ]
    cases tb with
    | true =>
     go_wp2_with fail
     go_roundw
     case rel => exact ⟨k + 1, m', cnt', by have := Hlt.out; omega, by go_num, HM5, q_ (HCl.out.skip Hp.out HT.out), HG5⟩
     case measure => have := Hlt.out; simp [intOf]; omega
    | false =>
     go_wp2_with fail
     have HMf : Hid (m' ((fs, fi), p) = false) := HT
     clear HT
     refine zch 6 [5] [.pointer (some ⟨g, 0, none⟩), .pointer (some ⟨g, 0, none⟩), .pointer (some ⟨g, 2, none⟩), .map (some bB), .agg #[.string fs, .string fi, .string p.1, .string p.2], undef] (StageM bB w5 (markP (fs, fi) p m') (cnt' + 1)) (by kernel_rfl) (by kernel_rfl) (by kernel_rfl) (by kernel_rfl)
      (show Ext w5 w5.drew from ⟨⟨rfl, rfl, rfl, Nat.le_refl _, fun _ _ => rfl⟩, Nat.le_succ _⟩) (fun i' op hi hn ho vs W' a hRR hold hat => ?_) (fun k' i' op hk ho vs W' a hvl hRR hold hat Q' K hK => ?_) ?_
     ·rcases (by simp at hn; omega : i' = 0 ∨ i' = 1 ∨ i' = 2 ∨ i' = 3 ∨ i' = 4) with rfl | rfl | rfl | rfl | rfl <;> obtain rfl := Option.some.inj ho
      ·exact zbd rfl (hold 0 (by kernel_rfl))
      ·exact zcg rfl (hat 0 26 (by omega) (by kernel_rfl) (by kernel_rfl))
      ·exact za8 _ _ _ rfl (hat 1 27 (by omega) (by kernel_rfl) (by kernel_rfl)) (zdh g).2.2
      ·exact za9 83 _ rfl g 2 (hat 2 28 (by omega) (by kernel_rfl) (by kernel_rfl)) Tryz.agg99 (cell_of_row _ _ 2 _ _ _ (HS5.out.grown hRR.grown).box)
      ·exact zat 122 _ rfl (wr.heap.size + 1) 0 (hold 8 (by kernel_rfl)) Tryz.agg107 Tryz.size107 rfl (zak ((hRR.grown.block _ (zaf HP1'.out) fun e => by have := HM'.out.lt; injection e with e; omega).trans HP1'.out))
     ·match k', hk with
      | 0, hk =>
       obtain rfl := Option.some.inj hk
       obtain rfl := Option.some.inj ho
       have : vs = [] := List.eq_nil_of_length_eq_zero hvl
       subst this
       have hx : Ext w5 W' := hRR
       obtain ⟨W2, hrun, hm2, hg2⟩ := (HM5.out.ext hx).put (by omega) HFp.out
       rw [if_neg (by rw [HMf.out]; simp)] at hm2
       exact wp_mapUpdate rfl (hat 3 29 (by omega) (by kernel_rfl) (by kernel_rfl)) (hat 4 30 (by omega) (by kernel_rfl) (by kernel_rfl)) rfl hrun (hK undef _ ⟨hm2, (GrownBy.of_ext _ hx).trans hg2⟩)
      | k' + 1, hk => simp at hk
     ·intro zs vs w6 hzl hvl hRR hzs
      obtain ⟨z0, z1, z2, z3, z4, z5, rfl⟩ := lst6 hzl
      obtain ⟨v5, rfl⟩ := lst1 hvl
      obtain ⟨hm6, hg6⟩ := hRR
      have HM6 := q_ hm6
      have HG6 := q_ hg6
      have HS6 := q_ (HS5.out.grown hg6)
      have hbz := HM'.out.lt
      have HP0'' := q_ ((hg6.block _ (zaf HP0'.out) fun e => by injection e with e; omega).trans HP0'.out)
      have HB6 := q_ ((hg6.block _ (zaf HB5.out) fun e => by have := HMp.out.lt; injection e with e; omega).trans HB5.out)
      clear hzs hzl hvl hm6 hg6
      obtain ⟨j, hj⟩ := idx_mem.1 (HTy.out.pars x Hxc.out p (List.mem_of_getElem? Hp.out))
      obtain ⟨f, hf, hfp⟩ : ∃ f, c[j]? = some f ∧ f.uid = p := by
       have h := idx_get hj
       rw [List.getElem?_map] at h
       obtain ⟨f, hf, hfp⟩ := Option.map_eq_some_iff.1 h
       exact ⟨f, hf, hfp⟩
      obtain ⟨A9, c9, rfl, hb9, hrow9⟩ := HS6.out.rows
      have hjl := (List.getElem?_eq_some_iff.1 hf).1
      obtain ⟨eb, eo, rfl, hSe, hrow9⟩ := hrow9 (by omega)
      obtain ⟨fcs, hfc, hfa⟩ := hrow9 j f hf
      have HFc := q_ hfc
      have HFa := q_ hfa
      have Hj := q_ hj
      have Hf := q_ hf
      have Hfp := q_ hfp
      have hfl : fcs.length = 11 := entR.len hfa
      have HSe : Hid (eb < w6.heap.size ∧ eb ≠ bB) := q_ (HS6.out.old eb hSe)
      clear hrow9 hfc hfa hj hf hfp
      simp only [List.take, List.drop, za0, Act.put, List.setIfInBounds_toArray, List.set_cons_zero, List.set_cons_succ]
      go_wp2_with fail
      have hlow : zfi (c.map Ent.uid) (zcz (fs, fi) (markP (fs, fi) p m')) + 1 ≤ zfi (c.map Ent.uid) (zcz (fs, fi) m') := by
       rw [ofFrom_mark]
       exact leftN_mark (HTy.out.pars x Hxc.out p (List.mem_of_getElem? Hp.out)) HMf.out
      have HLow : Hid (zfi (c.map Ent.uid) (zcz (fs, fi) (markP (fs, fi) p m')) < n ∧ cnt' + 1 + zfi (c.map Ent.uid) (zcz (fs, fi) (markP (fs, fi) p m')) ≤ 1048000) := q_ (by
       have h1 : zfi (c.map Ent.uid) (zcz (fs, fi) m') ≤ zfi (c.map Ent.uid) (zcz (fs, fi) m) := leftN_le HCl.out.marked.old
       have h2 := HCl.out.count
       have h3 := Hcnt.out
       have h4 := Hn.out
       constructor <;> omega)
      clear hlow
      have hwb : wr.heap.size ≠ bB := by have := HM'.out.lt; omega
      refine zch 15 [14] [.pointer (some ⟨g, 0, none⟩), .agg #[.string fs, .string fi], .pointer (some ⟨g, 0, none⟩), .pointer (some ⟨g, 0, none⟩), .pointer (some ⟨g, 0, none⟩), .slice (some ⟨eb, eo, none⟩) c.length c9, .pointer (some ⟨g, 0, none⟩), .pointer (some ⟨g, 0, none⟩), .pointer (some ⟨g, 1, none⟩), .map (some bA), .agg #[.string p.1, .string p.2], .int .i64 j, .pointer (some ⟨eb, eo + j * 11, none⟩), .agg fcs.toArray, undef] (StageR c (fs, fi) f (markP (fs, fi) p m') (cnt' + 1) bB w6) (by kernel_rfl) (by kernel_rfl) (by kernel_rfl) (by kernel_rfl)
       (show Ext w6 w6.drew from ⟨⟨rfl, rfl, rfl, Nat.le_refl _, fun _ _ => rfl⟩, Nat.le_succ _⟩) (fun i' op hi hn ho vs W' a hRR hold hat => ?_) (fun k' i' op hk ho vs W' a hvl hRR hold hat Q' K hK => ?_) ?_
      ·rcases (by simp at hn; omega : i' = 0 ∨ i' = 1 ∨ i' = 2 ∨ i' = 3 ∨ i' = 4 ∨ i' = 5 ∨ i' = 6 ∨ i' = 7 ∨ i' = 8 ∨ i' = 9 ∨ i' = 10 ∨ i' = 11 ∨ i' = 12 ∨ i' = 13) with rfl | rfl | rfl | rfl | rfl | rfl | rfl | rfl | rfl | rfl | rfl | rfl | rfl | rfl <;> obtain rfl := Option.some.inj ho
       ·exact zbd rfl (hold 0 (by kernel_rfl))
       ·exact zat 23 _ rfl W.heap.size 0 (hold 4 (by kernel_rfl)) zbh za6 rfl (zak ((hRR.grown.block _ (zaf HB6.out) fun e => by have := HMp.out.lt; injection e with e; omega).trans HB6.out))
       ·exact zbd rfl (hold 0 (by kernel_rfl))
       ·exact zcg rfl (hat 2 33 (by omega) (by kernel_rfl) (by kernel_rfl))
       ·exact za8 _ _ _ rfl (hat 3 34 (by omega) (by kernel_rfl) (by kernel_rfl)) (zdh g).1
       ·exact za9 41 _ rfl g 0 (hat 4 35 (by omega) (by kernel_rfl) (by kernel_rfl)) Tryz.agg22 (cell_of_row _ _ 0 _ _ _ (HS6.out.grown hRR.grown).box)
       ·exact zbd rfl (hold 0 (by kernel_rfl))
       ·exact zcg rfl (hat 6 37 (by omega) (by kernel_rfl) (by kernel_rfl))
       ·exact za8 _ _ _ rfl (hat 7 38 (by omega) (by kernel_rfl) (by kernel_rfl)) (zdh g).2.1
       ·exact za9 82 _ rfl g 1 (hat 8 39 (by omega) (by kernel_rfl) (by kernel_rfl)) Tryz.agg87 (cell_of_row _ _ 1 _ _ _ (HS6.out.grown hRR.grown).box)
       ·exact zat 23 _ rfl wr.heap.size 0 (hold 7 (by kernel_rfl)) zbh za6 rfl (zak ((hRR.grown.block _ (zaf HP0''.out) fun e => hwb (Option.some.inj e)).trans HP0''.out))
       ·exact exec_lookup rfl (hat 9 40 (by omega) (by kernel_rfl) (by kernel_rfl)) (hat 10 41 (by omega) (by kernel_rfl) (by kernel_rfl)) ((HS6.out.grown hRR.grown).at'.look HPf.out Hj.out)
       ·exact zc0 rfl (hat 5 36 (by omega) (by kernel_rfl) (by kernel_rfl)) (hat 11 42 (by omega) (by kernel_rfl) (by kernel_rfl)) ze9 zdz hjl
       ·exact zat 87 _ rfl eb (eo + j * 11) (hat 12 43 (by omega) (by kernel_rfl) (by kernel_rfl)) za5 zas hfl (HFc.out.alike (S := fun b => b = eb) rfl fun b hb => hRR.grown.block b (hb ▸ HSe.out.1) fun e => HSe.out.2 (hb ▸ Option.some.inj e))
      ·match k', hk with
       | 0, hk =>
        obtain rfl := Option.some.inj hk
        obtain rfl := Option.some.inj ho
        have : vs = [] := List.eq_nil_of_length_eq_zero hvl
        subst this
        have hx : Ext w6 W' := hRR
        have hl2 := HLow.out
        refine zc3 (zco Tryz.func37 (by kernel_rfl) (by kernel_rfl) rfl (map_three (hat 0 31 (by omega) (by kernel_rfl) (by kernel_rfl)) (hat 1 32 (by omega) (by kernel_rfl) (by kernel_rfl)) (hat 13 44 (by omega) (by kernel_rfl) (by kernel_rfl))))
         ((IH.out f fcs (markP (fs, fi) p m') (cnt' + 1) W' hl2.1 (List.mem_of_getElem? Hf.out) (HS6.out.ext hx) (HM6.out.ext hx) hl2.2 (entR.alike HFa.out (Alike.of_ext hx fun b hb => (HS6.out.old b hb).1))).mono ?_) hK
        rintro e w7 ⟨rfl, m2, cnt2, hm2, hc2, hg2⟩
        exact ⟨_, rfl, m2, cnt2, hm2, hc2, (GrownBy.of_ext _ hx).trans hg2⟩
       | k' + 1, hk => simp at hk
      ·intro ys vs w7 hyl hvl hRR hys
       obtain ⟨y0, y1, y2, y3, y4, y5, y6, y7, y8, y9, y10, y11, y12, y13, y14, rfl⟩ := lst15' hyl
       obtain ⟨v6, rfl⟩ := lst1 hvl
       obtain ⟨m2, cnt2, hm2, hc2, hg2⟩ := hRR
       have HM7 := q_ hm2
       have HC7 := q_ hc2
       have HG7 : Hid (GrownBy W0 w7 (some bB)) := q_ ((HG5.out.trans HG6.out).trans hg2)
       clear hys hyl hvl hm2 hc2 hg2
       simp only [List.take, List.drop, za0, Act.put, List.setIfInBounds_toArray, List.set_cons_zero, List.set_cons_succ]
       go_wp2_with fail
       go_roundw
       case rel => exact ⟨k + 1, m2, cnt2, by have := Hlt.out; omega, by go_num, HM7, q_ (HCl.out.step HTy.out Hxc.out Hp.out HMf.out (List.mem_of_getElem? Hf.out) Hfp.out HC7.out), HG7⟩
       case measure => have := Hlt.out; simp [intOf]; omega
   ·go_wp2_with fail
    go_end0
    obtain rfl : k = x.ps.length := by omega
    exact ⟨rfl, m', cnt', HM'.out, HCl.out, HG.out⟩
end Go.Proofs.YtebfoimbdljbmaaGreatDoor

/-
  The store of entities: what the program's Load leaves in memory. The conditions: the entities lie in memory as they should, and are few.
-/
namespace Go.Proofs.YtebfoimbdljbmaaGreatDoor
open Go.RowKit
open Lib renaming hid → q_
set_option maxRecDepth 100000
set_option maxHeartbeats 4000000
theorem canonE_good {l : List Ent} (h : Good l) : Good (za7 l).1 := ze6.1 (by rw [canonE_again h])
theorem canonE_tidy {l : List Ent} (h : Good l) (hl : l.length ≤ 1000) (hp : ∀ e ∈ l, e.ps.length ≤ 1000) (hd : ∀ e ∈ l, e.av.dep ≤ 1000000) : Tidy (za7 l).1 :=
 ⟨(canonE_good h).names, fun e he p hp => ((canonE_good h).ones e he).2.2 p hp, by rw [zfc h]; exact hl, (canonE_small h hp hd).1⟩
structure Fam (W : World) (g : Nat) (c : List Ent) : Prop where
 ex : ∃ (S : Nat → Prop) (bA bB : Nat) (vc : Value) (m : zea → Bool) (cnt : Nat), StoreAt S g bA bB c vc W ∧ MapP W bB m cnt ∧ (∀ u q, m (u, q) = true ↔ UpTo c u q) ∧ cnt ≤ 1048000
 tidy : Tidy c
theorem Fam.ext {W W' : World} {g : Nat} {c : List Ent} (h : Fam W g c) (k : Ext W W') : Fam W' g c := by
 obtain ⟨S, bA, bB, vc, m, cnt, h1, h2, h3⟩ := h.ex
 exact ⟨⟨S, bA, bB, vc, m, cnt, h1.ext k, h2.ext k, h3⟩, h.tidy⟩
def MarksUpTo (c : List Ent) (i : Nat) (m : zea → Bool) : Prop := ∀ u q, m (u, q) = true ↔ (∃ j, j < i ∧ (c.map Ent.uid)[j]? = some u) ∧ UpTo c u q
theorem MarksUpTo.free {c : List Ent} (hn : (c.map Ent.uid).Nodup) {i : Nat} {m : zea → Bool} (h : MarksUpTo c i m) {x : Ent} (hx : c[i]? = some x) (q : Uid) : m (x.uid, q) = false := by
 cases hm : m (x.uid, q) with
 | false => rfl
 | true =>
  obtain ⟨⟨j, hj, hju⟩, _⟩ := (h _ _).1 hm
  have h1 := zbc hn hju
  have h2 := zbc (i := i) (u := x.uid) hn (by rw [List.getElem?_map, hx]; rfl)
  rw [h1] at h2
  injection h2 with h2
  omega
theorem MarksUpTo.step {c : List Ent} (ht : Tidy c) {i : Nat} {m m' : zea → Bool} {cnt cnt' : Nat} (h : MarksUpTo c i m) {x : Ent} (hx : c[i]? = some x) (k : Climbed c x.uid x x.ps.length m m' cnt cnt') : MarksUpTo c (i + 1) m' := fun u q => by
 have hxc := List.mem_of_getElem? hx
 by_cases hu : u = x.uid
 ·subst hu
  have h1 := Marked.all ht.names hxc (fun p hp => ht.pars x hxc p hp) (m := zcz x.uid m) (fun q => h.free ht.names hx q) k.marked q
  have h1 : m' (x.uid, q) = true ↔ UpTo c x.uid q := h1
  rw [h1]
  exact ⟨fun h => ⟨⟨i, by omega, by rw [List.getElem?_map, hx]; rfl⟩, h⟩, fun h => h.2⟩
 ·rw [k.other (u, q) hu, h u q]
  constructor
  ·rintro ⟨⟨j, hj, hju⟩, h2⟩
   exact ⟨⟨j, by omega, hju⟩, h2⟩
  ·rintro ⟨⟨j, hj, hju⟩, h2⟩
   refine ⟨⟨j, ?_, hju⟩, h2⟩
   rcases Nat.lt_or_ge j i with h3 | h3
   ·exact h3
   ·have : j = i := by omega
    subst this
    rw [List.getElem?_map, hx] at hju
    exact absurd (Option.some.inj hju).symm hu
theorem MarksUpTo.all {c : List Ent} {m : zea → Bool} (h : MarksUpTo c c.length m) (u q : Uid) : m (u, q) = true ↔ UpTo c u q := by
 rw [h u q]
 refine ⟨fun h => h.2, fun hup => ⟨?_, hup⟩⟩
 obtain ⟨j, hj⟩ := List.mem_iff_getElem?.1 hup.names.1
 exact ⟨j, by have := (List.getElem?_eq_some_iff.1 hj).1; simpa using this, hj⟩
theorem leftN_free {us : List Uid} {m : Uid → Bool} (h : ∀ q, m q = false) : zfi us m = us.length := by
 unfold zfi
 exact List.countP_eq_length.2 fun q _ => by rw [h q]; rfl
theorem lst8 {α : Type} {l : List α} (h : l.length = 8) : ∃ a0 a1 a2 a3 a4 a5 a6 a7, l = [a0, a1, a2, a3, a4, a5, a6, a7] := by
 match l, h with
 | [_, _, _, _, _, _, _, _], _ => exact ⟨_, _, _, _, _, _, _, _, rfl⟩
def StageU (c : List Ent) (bA k : Nat) (w3 : World) : List Value → World → Prop
 | [], W => Ext w3 W
 | [_], W => MapU W bA (idx ((c.map Ent.uid).take (k + 1))) (k + 1) ∧ GrownBy w3 W (some bA)
 | _, _ => False
theorem StageU.grown {c : List Ent} {bA k : Nat} {w3 W : World} {vs : List Value} (h : StageU c bA k w3 vs W) : GrownBy w3 W (some bA) := by
 match vs, h with
 | [], h => exact GrownBy.of_ext _ (show Ext w3 W from h)
 | [_], h => exact h.2
 | _ :: _ :: _, h => exact h.elim
def LoadPost (l : List Ent) (w : World) (e : Ending) (w' : World) : Prop :=
 ((za7 l).2 ≠ 0 → e = .returned (.tuple #[.pointer none, .int .i64 (za7 l).2])) ∧ ((za7 l).2 = 0 → ∃ g, e = .returned (.tuple #[.pointer (some ⟨g, 0, none⟩), .int .i64 0]) ∧ Fam w' g (za7 l).1 ∧ w.heap.size ≤ g) ∧ Ext w w'
theorem load_ok (S : Nat → Prop) (l : List Ent) (v : Value) (w : World) (hS : ∀ b, S b → b < w.heap.size) (hl : entR.RowsAt S w l v) (h20 : l.length ≤ 1000) (hps : ∀ e ∈ l, e.ps.length ≤ 1000) (hdep : ∀ e ∈ l, e.av.dep ≤ 1000000) :
  Calls Tryz.prog 15 #[v] w (LoadPost l w) := by
 have hl' := hl
 obtain ⟨A, cap, rfl, ⟨hl0, hl1, hl2⟩, hlr⟩ := hl
 clear hl0 hlr
 rw [zaj] at hl2
 have HS := q_ hS
 have HL := q_ hl'
 have HP := q_ hps
 have HD := q_ hdep
 clear hS hl' hps hdep
 have hmm := @run_makeMap Tryz.prog
 go_enter Tryz.func15, Tryz.ntmps15
 go_wp2_with fail
 refine (canE_ok S l _ w HS.out HL.out (by omega) (fun e he => by have := HP.out e he; omega) HD.out).mono ?_
 rintro e w1 ⟨va, rfl, hva, hx1⟩
 have HX1 := q_ hx1
 by_cases hgood : Good l
 ·have hc0 : (za7 l).2 = 0 := ze6.2 hgood
  have hgl : (za7 l).1.length ≤ 1000 := by rw [zfc hgood]; exact h20
  have HGd := q_ (canonE_good hgood)
  have HTy := q_ (canonE_tidy hgood h20 HP.out HD.out)
  have HC0 := q_ hc0
  have HR := q_ (ents_rows hva (by rw [zaq]; omega))
  obtain ⟨A1, c1, rfl⟩ := zaz hva.choose_spec.1
  rw [hc0]
  obtain ⟨c, hcc⟩ : ∃ c, c = (za7 l).1 := ⟨_, rfl⟩
  rw [← hcc] at hgl HGd HTy HR ⊢
  have HCc := q_ hcc
  clear hc0 hva hcc hx1 hgood
  obtain ⟨hb1, hb2, hb3⟩ : c.length ≤ c1 ∧ c1 ≤ 9223372036854775807 ∧ True := by
   obtain ⟨A2, c2, e2, ⟨_, h2, h3⟩, _⟩ := HR.out
   injection e2 with e2a e2b e2
   subst e2
   rw [zaj] at h3
   exact ⟨h2, h3, trivial⟩
  clear hb3
  go_wp2_with fail
  obtain ⟨W0, hW0⟩ : ∃ W0, W0 = ((w1.alloc (.map #[] 0)).alloc (.map #[] 0)).alloc (.cells #[.slice A1 c.length c1, .map (some w1.heap.size), .map (some (w1.heap.size + 1))] 85) := ⟨_, rfl⟩
  have hbox : W0.heap[w1.heap.size + 1 + 1]? = some (.cells #[.slice A1 c.length c1, .map (some w1.heap.size), .map (some (w1.heap.size + 1))] 85 (0, 0)) := by
   rw [hW0]
   have h := heap_alloc_new ((w1.alloc (.map #[] 0)).alloc (.map #[] 0)) (.cells #[.slice A1 c.length c1, .map (some w1.heap.size), .map (some (w1.heap.size + 1))] 85)
   simp only [World.size_alloc] at h
   exact h
  have HM0 : Hid (MapU W0 w1.heap.size (idx ((c.map Ent.uid).take 0)) 0) := q_ (by rw [hW0]; exact (((MapU.made w1).ext ((Ext.refl _).alloc _)).ext ((Ext.refl _).alloc _)).congr fun u => rfl)
  have HP0 : Hid (MapP W0 (w1.heap.size + 1) (fun _ => false) 0) := q_ (by
   rw [hW0]
   have h := MapP.made (w1.alloc (.map #[] 0))
   rw [World.size_alloc] at h
   exact h.ext ((Ext.refl _).alloc _))
  have HX0 : Hid (Ext w1 W0) := q_ (by rw [hW0]; exact (((Ext.refl w1).alloc _).alloc _).alloc _)
  have HBox := q_ hbox
  rw [← hW0]
  clear hbox hW0 hmm
  obtain ⟨bA, hbA⟩ : ∃ bA, bA = w1.heap.size := ⟨_, rfl⟩
  obtain ⟨g, hg⟩ : ∃ g, g = bA + 1 + 1 := ⟨_, rfl⟩
  rw [← hbA] at HM0 HP0 HBox ⊢
  rw [← hg] at HBox ⊢
  have HbA := q_ hbA
  have HgA := q_ hg
  clear hbA hg
  go_loopw [26] (fun i' wr => ∃ k : Nat, k ≤ c.length ∧ i' = .int .i64 k ∧ Hid (MapU wr bA (idx ((c.map Ent.uid).take k)) k) ∧ Hid (GrownBy W0 wr (some bA))) (fun i' _ => c.length - (intOf i').toNat)
  case atStart => exact ⟨0, Nat.zero_le _, rfl, HM0, q_ (GrownBy.of_ext _ (Ext.refl _))⟩
  case round =>
   obtain ⟨k, hk, rfl, HM, HG⟩ := hrel
   by_cases hlt : k < c.length
   ·obtain ⟨A9, c9, e9, _, hrow⟩ := HR.out
    injection e9 with e9 e9b e9c
    clear e9b
    subst e9 e9c
    obtain ⟨eb, eo, rfl, hSe, hrow⟩ := hrow (by omega)
    obtain ⟨x, hx⟩ : ∃ x, c[k]? = some x := ⟨_, List.getElem?_eq_getElem hlt⟩
    obtain ⟨cs, hca, hxa⟩ := hrow k x hx
    have Hca := q_ (hca.alike (S := fun b => b < w1.heap.size) (w' := wr) hSe fun b hb => by
     rw [HG.out.block b (Nat.lt_of_lt_of_le hb HX0.out.size) (fun e => by injection e with e; have := HbA.out; omega)]
     exact HX0.out.block b hb)
    have Hu := q_ (show FitU x.uid by obtain ⟨_, _, _, h, _⟩ := hxa; exact h)
    have Hx := q_ (show (c.map Ent.uid)[k]? = some x.uid by simp [hx])
    have Hm := q_ (fun y => idx_take_succ (us := c.map Ent.uid) (y := y) Hx.out)
    have HNone : Hid (idx ((c.map Ent.uid).take k) x.uid = none) := q_ (by
     rw [zfj]
     intro hm
     obtain ⟨j, hj⟩ := List.mem_iff_getElem?.1 hm
     rw [List.getElem?_take] at hj
     split at hj
     ·rename_i hjk
      have h1 := zbc HGd.out.names hj
      have h2 := zbc HGd.out.names Hx.out
      rw [h1] at h2
      injection h2 with h2
      omega
     ·cases hj)
    obtain ⟨B1, l1, d1, q1, q2, q3, q4, q5, q6, B2, l2, d2, B3, l3, d3, rfl⟩ := zef hxa
    clear hx hxa hca hrow
    go_wp2_with (first | refine zab rfl 87 _ rfl eb (eo + k * 11) rfl za5 zas rfl Hca.out ?_)
    obtain ⟨w3, hw3⟩ : ∃ w3, w3 = wr.alloc (.cells #[.string x.uid.1, .string x.uid.2, .slice B1 l1 d1, .int .i64 q1, .bool q2, .int .i64 q3, .string q4, .string q5, .string q6, .slice B2 l2 d2, .slice B3 l3 d3] 87) := ⟨_, rfl⟩
    have HE3 : Hid (w3.heap[wr.heap.size]? = some (.cells #[.string x.uid.1, .string x.uid.2, .slice B1 l1 d1, .int .i64 q1, .bool q2, .int .i64 q3, .string q4, .string q5, .string q6, .slice B2 l2 d2, .slice B3 l3 d3] 87 (0, 0))) := q_ (hw3 ▸ heap_alloc_new _ _)
    have HX3 : Hid (Ext wr w3) := q_ (hw3 ▸ (Ext.refl wr).alloc _)
    have HM3 := q_ (HM.out.ext HX3.out)
    have HBw := q_ HM.out.lt
    have HB3 : Hid (w3.heap[g]? = some (.cells #[.slice (some ⟨eb, eo, none⟩) c.length c1, .map (some bA), .map (some (bA + 1))] 85 (0, 0))) := q_ ((HX3.out.block g (Nat.lt_of_lt_of_le (zaf HBox.out) HG.out.size)).trans ((HG.out.block g (zaf HBox.out) (fun e => by have := HBw.out; have := HgA.out; injection e with e; omega)).trans HBox.out))
    rw [← hw3]
    clear hw3
    have Hlt := q_ hlt
    refine zch 8 [7] [.pointer (some ⟨g, 0, none⟩), .pointer (some ⟨g, 0, none⟩), .pointer (some ⟨g, 1, none⟩), .map (some bA), .pointer (some ⟨wr.heap.size, 0, none⟩), .agg #[.string x.uid.1, .string x.uid.2], .int .i64 k, undef] (StageU c bA k w3) (by kernel_rfl) (by kernel_rfl) (by kernel_rfl) (by kernel_rfl)
     (show Ext w3 w3.drew from ⟨⟨rfl, rfl, rfl, Nat.le_refl _, fun _ _ => rfl⟩, Nat.le_succ _⟩) (fun i' op hi hn ho vs W a hRR hold hat => ?_) (fun k' i' op hk ho vs W a hvl hRR hold hat Q' K hK => ?_) ?_
    ·rcases (by simp at hn; omega : i' = 0 ∨ i' = 1 ∨ i' = 2 ∨ i' = 3 ∨ i' = 4 ∨ i' = 5 ∨ i' = 6) with rfl | rfl | rfl | rfl | rfl | rfl | rfl <;> obtain rfl := Option.some.inj ho
     ·exact zbd rfl (hold 6 (by kernel_rfl))
     ·exact zcg rfl (hat 0 31 (by omega) (by kernel_rfl) (by kernel_rfl))
     ·exact za8 _ _ _ rfl (hat 1 32 (by omega) (by kernel_rfl) (by kernel_rfl)) (zdh g).2.1
     ·exact za9 82 _ rfl g 1 (hat 2 33 (by omega) (by kernel_rfl) (by kernel_rfl)) Tryz.agg87 (cell_of_row _ _ 1 _ _ _ ((hRR.grown.block _ (zaf HB3.out) fun e => by have := HBw.out; have := HgA.out; injection e with e; omega).trans HB3.out))
     ·exact za8 _ _ _ rfl (hold 8 (by kernel_rfl)) (Tryz.field60 wr.heap.size)
     ·exact zat 23 _ rfl wr.heap.size 0 (hat 4 35 (by omega) (by kernel_rfl) (by kernel_rfl)) zbh za6 rfl (fun j u hj => (World.cell?_of_block (a := ⟨wr.heap.size, 0 + j, none⟩) (hRR.grown.block _ (zaf HE3.out) fun e => by have h1 := HBw.out; have h2 : wr.heap.size = bA := Option.some.inj e; omega)).trans (zak HE3.out j u (by
       match j, hj with
       | 0, hj => exact hj
       | 1, hj => exact hj)))
     ·exact zbd rfl (hold 7 (by kernel_rfl))
    ·match k', hk with
     | 0, hk =>
      obtain rfl := Option.some.inj hk
      obtain rfl := Option.some.inj ho
      have : vs = [] := List.eq_nil_of_length_eq_zero hvl
      subst this
      have hx : Ext w3 W := hRR
      obtain ⟨W2, hrun, hm2, hg2⟩ := (HM3.out.ext hx).put (by omega) Hu.out (i := k) (by omega)
      rw [HNone.out] at hm2
      refine wp_mapUpdate rfl (hat 3 34 (by omega) (by kernel_rfl) (by kernel_rfl)) (hat 5 36 (by omega) (by kernel_rfl) (by kernel_rfl)) (hat 6 37 (by omega) (by kernel_rfl) (by kernel_rfl)) hrun (hK undef _ ⟨hm2.congr fun y => ?_, (GrownBy.of_ext _ hx).trans hg2⟩)
      rw [Hm.out y]
      by_cases hy : y = x.uid
      ·subst hy; rw [if_pos rfl, HNone.out]; simp
      ·rw [if_neg hy, if_neg hy]
       cases hz : idx ((c.map Ent.uid).take k) y <;> simp
     | k' + 1, hk => simp at hk
    ·intro zs vs w4 hzl hvl hRR hzs
     obtain ⟨z0, z1, z2, z3, z4, z5, z6, z7, rfl⟩ := lst8 hzl
     obtain ⟨v5, rfl⟩ := lst1 hvl
     obtain ⟨hm4, hg4⟩ := hRR
     have HM4 := q_ hm4
     have HG4 : Hid (GrownBy W0 w4 (some bA)) := q_ ((HG.out.trans (GrownBy.of_ext _ HX3.out)).trans hg4)
     clear hzs hzl hvl hm4 hg4
     simp only [List.take, List.drop, za0, Act.put, List.setIfInBounds_toArray, List.set_cons_zero, List.set_cons_succ]
     go_wp2_with fail
     go_roundw
     case rel => exact ⟨k + 1, by have := Hlt.out; omega, by go_num, HM4, HG4⟩
     case measure => have := Hlt.out; simp [intOf]; omega
   ·obtain rfl : k = c.length := by omega
    have HM1 := q_ (HM.out.congr (fun y => idx_take_full (us := c.map Ent.uid) (by simp) y))
    clear HM
    rename World => W5
    have HSt5 : Hid (StoreAt (fun b => b < w1.heap.size) g bA (bA + 1) c (.slice A1 c.length c1) W5) := q_ ⟨(HG.out.block g (zaf HBox.out) (fun e => by have := HgA.out; injection e with e; omega)).trans HBox.out,
     HR.out.alike fun b hb => (HG.out.block b (Nat.lt_of_lt_of_le hb HX0.out.size) (fun e => by have := HbA.out; injection e with e; omega)).trans (HX0.out.block b hb), HM1.out,
     fun b hb => ⟨Nat.lt_of_lt_of_le hb (Nat.le_trans HX0.out.size HG.out.size), by have := HbA.out; omega⟩, by have := HgA.out; omega, by omega⟩
    have HP5 : Hid (MapP W5 (bA + 1) (fun _ => false) 0) := q_ (HP0.out.block (HG.out.block _ HP0.out.lt (fun e => by injection e with e; omega)))
    have HX5 : Hid (Ext w1 W5) := q_ (zav HX0.out HG.out fun b e => by have := HbA.out; injection e with e; omega)
    clear HP0 HX0 HM1 HBox HG
    go_wp2_with fail
    go_loopw [41] (fun i' wr => ∃ (k : Nat) (m : zea → Bool) (cnt : Nat), k ≤ c.length ∧ i' = .int .i64 k ∧ Hid (MapP wr (bA + 1) m cnt) ∧ Hid (MarksUpTo c k m) ∧ Hid (cnt ≤ k * c.length) ∧ Hid (GrownBy W5 wr (some (bA + 1)))) (fun i' _ => c.length - (intOf i').toNat)
    case atStart => exact ⟨0, fun _ => false, 0, Nat.zero_le _, rfl, HP5, q_ fun u q => by constructor <;> simp, q_ (Nat.zero_le _), q_ (GrownBy.of_ext _ (Ext.refl _))⟩
    case round =>
     obtain ⟨k, m, cnt, hk, rfl, HM, HMk, HCn, HG⟩ := hrel
     by_cases hlt : k < c.length
     ·obtain ⟨A9, c9, e9, _, hrow⟩ := HR.out
      injection e9 with e9 e9b e9c
      clear e9b
      subst e9 e9c
      obtain ⟨eb, eo, rfl, hSe, hrow⟩ := hrow (by omega)
      obtain ⟨x, hx⟩ : ∃ x, c[k]? = some x := ⟨_, List.getElem?_eq_getElem hlt⟩
      obtain ⟨cs, hca, hxa⟩ := hrow k x hx
      have HAl : Hid (Alike (fun b => b < w1.heap.size) w1 wr) := q_ fun b hb => by
       rw [HG.out.block b (Nat.lt_of_lt_of_le hb HX5.out.size) (fun e => by injection e with e; have := HbA.out; omega)]
       exact HX5.out.block b hb
      have Hca := q_ (hca.alike (S := fun b => b < w1.heap.size) (w' := wr) hSe HAl.out)
      have Hxa := q_ (entR.alike hxa HAl.out)
      have Hu := q_ (show FitU x.uid by obtain ⟨_, _, _, h, _⟩ := hxa; exact h)
      have Hx := q_ hx
      obtain ⟨B1, l1, d1, q1, q2, q3, q4, q5, q6, B2, l2, d2, B3, l3, d3, rfl⟩ := zef hxa
      clear hx hxa hca hrow HAl
      have Hlt := q_ hlt
      go_wp2_with (first | refine zab rfl 87 _ rfl eb (eo + k * 11) rfl za5 zas rfl Hca.out ?_)
      obtain ⟨w3, hw3⟩ : ∃ w3, w3 = wr.alloc (.cells #[.string x.uid.1, .string x.uid.2, .slice B1 l1 d1, .int .i64 q1, .bool q2, .int .i64 q3, .string q4, .string q5, .string q6, .slice B2 l2 d2, .slice B3 l3 d3] 87) := ⟨_, rfl⟩
      have HX3 : Hid (Ext wr w3) := q_ (hw3 ▸ (Ext.refl wr).alloc _)
      rw [← hw3]
      clear hw3
      have hfree : ∀ q, zcz x.uid m q = false := fun q => HMk.out.free HGd.out.names Hx.out q
      have hbnd : cnt + zfi (c.map Ent.uid) (zcz x.uid m) ≤ (k + 1) * c.length ∧ (k + 1) * c.length ≤ 1000 * 1000 := by
       rw [leftN_free hfree, List.length_map, Nat.succ_mul]
       have h1 := HCn.out
       have h2 : (k + 1) * c.length ≤ 1000 * 1000 := Nat.mul_le_mul (by have := Hlt.out; omega) hgl
       rw [Nat.succ_mul] at h2
       omega
      have HBnd := q_ hbnd
      clear hfree hbnd
      refine (climb_ok (fun b => b < w1.heap.size) g bA (bA + 1) c _ HTy.out x.uid Hu.out (zfi (c.map Ent.uid) (zcz x.uid m) + 1) x [.string x.uid.1, .string x.uid.2, .slice B1 l1 d1, .int .i64 q1, .bool q2, .int .i64 q3, .string q4, .string q5, .string q6, .slice B2 l2 d2, .slice B3 l3 d3] m cnt w3 (Nat.lt_succ_self _) (List.mem_of_getElem? Hx.out) ((HSt5.out.grown HG.out).ext HX3.out) (HM.out.ext HX3.out) (by have := HBnd.out; omega)
       (entR.alike Hxa.out fun b hb => HX3.out.block b (Nat.lt_of_lt_of_le hb (Nat.le_trans HX5.out.size HG.out.size)))).mono ?_
      rintro e w4 ⟨rfl, m', cnt', hm', hcl, hg4⟩
      have HM4 := q_ hm'
      have HCl := q_ hcl
      have HG4 : Hid (GrownBy W5 w4 (some (bA + 1))) := q_ ((HG.out.trans (GrownBy.of_ext _ HX3.out)).trans hg4)
      clear hm' hcl hg4
      go_wp2_with fail
      go_roundw
      case rel => exact ⟨k + 1, m', cnt', by have := Hlt.out; omega, by go_num, HM4, q_ (HMk.out.step HTy.out Hx.out HCl.out), q_ (by have h1 := HCl.out.count; have h2 := HBnd.out; omega), HG4⟩
      case measure => have := Hlt.out; simp [intOf]; omega
     ·obtain rfl : k = c.length := by omega
      have hcl : cnt ≤ 1048000 := by
       have h1 := HCn.out
       have h2 : c.length * c.length ≤ 1000 * 1000 := Nat.mul_le_mul hgl hgl
       omega
      go_wp2_with fail
      refine bodyPost_ret (v := .tuple #[.pointer (some ⟨g, 0, none⟩), .int .i64 0]) (by kernel_rfl) rfl ?_
      obtain rfl := HCc.out
      refine ⟨fun h => absurd HC0.out h, fun _ => ⟨g, rfl, ⟨⟨_, bA, bA + 1, _, m, cnt, HSt5.out.grown HG.out, HM.out, fun u q => HMk.out.all u q, hcl⟩, HTy.out⟩, ?_⟩, ?_⟩
      ·have h1 := HbA.out
       have h2 := HgA.out
       have h3 := HX1.out.size
       omega
      ·exact zav (HX1.out.trans HX5.out) HG.out fun b e => by have h1 := HbA.out; have h3 := HX1.out.size; injection e with e; omega
 ·have hc0 : (za7 l).2 ≠ 0 := fun h => hgood (ze6.1 h)
  have hb : (za7 l).1 = [] := canonE_bad hgood
  obtain ⟨A1, c1, rfl⟩ := zaz hva.choose_spec.1
  rw [hb]
  generalize herr : (za7 l).2 = er at *
  have e0 : (er != 0) = true := by simp [hc0]
  have HC0 := q_ hc0
  have Herr := q_ herr
  clear hva hc0 hb hgood herr hx1
  go_wp2_with fail
  refine bodyPost_ret (v := .tuple #[.pointer none, .int .i64 er]) (by kernel_rfl) rfl ?_
  exact ⟨fun _ => by rw [Herr.out], fun h => absurd (Herr.out ▸ h) HC0.out, HX1.out⟩
end Go.Proofs.YtebfoimbdljbmaaGreatDoor

/-
  What the program tells of a store: an entity by its name, all of them, whether one is in another one. The conditions: the store lies in memory as it should.
-/
namespace Go.Proofs.YtebfoimbdljbmaaGreatDoor
open Go.RowKit
open Lib renaming hid → q_
set_option maxRecDepth 100000
set_option maxHeartbeats 4000000
theorem zdg {P : Program} {o : Oper} {a : Act} {w : World} {x : Operand} {v : Value} (ho : o.op = .assign x) (hv : a.eval x = v) : (execOp a.eval o).run P w = .ok (.value v) w := by
 unfold execOp
 simp [ho, hv]
theorem lst11 {α : Type} {l : List α} (h : l.length = 11) : ∃ a0 a1 a2 a3 a4 a5 a6 a7 a8 a9 a10, l = [a0, a1, a2, a3, a4, a5, a6, a7, a8, a9, a10] := by
 match l, h with
 | [_, _, _, _, _, _, _, _, _, _, _], _ => exact ⟨_, _, _, _, _, _, _, _, _, _, _, rfl⟩
section
open Go.Maps
theorem MapU.look_at {w : World} {b : Nat} {m : Uid → Option Nat} {cnt : Nat} (h : MapU w b m cnt) {u : Uid} (hu : FitU u) : (Instr.lookup 82 (.map (some b)) (zeu u) true).run Tryz.prog w = .ok (.tuple #[.int .i64 ((m u).getD 0 : Nat), .bool (m u).isSome]) w := by
 obtain ⟨D, n, hown, hn, hr, hc, hle⟩ := h
 obtain ⟨v, ps, hrun, hv⟩ := hown.look_ok Tryz.lawU Tryz.underlying82 (Tryz.zeroI w) (plainElem_int Tryz.underlying3 (by decide)) (zb6 hu)
 obtain ⟨c, rfl, hx, hwc⟩ := plainElem_int_inv Tryz.underlying3 hv
 injection hx with hx _
 rw [hr.has u hu] at hrun
 cases hmu : m u with
 | none =>
  have h0 := atKey_of_not_has (D := D) (k := litU u) (by rw [hr.has u hu, hmu]; rfl) (.lit (.int .i64 0))
  rw [h0] at hx
  injection hx with hx
  injection hx with _ hx
  subst hx
  rw [hmu] at hrun
  exact hrun
 | some i =>
  rw [hr.at' u i hu hmu] at hx
  injection hx with hx
  injection hx with _ hx
  subst hx
  rw [hmu] at hrun
  exact hrun
end
def zeroEnt : List Value := zap (ByteArray.empty, ByteArray.empty) (.slice none 0 0) zeroCells
def GetPost (us : List Uid) (c : List Ent) (u : Uid) (w : World) (e : Ending) (w' : World) : Prop :=
 ∃ (cs : List Value) (b : Bool), e = .returned (.tuple #[.agg cs.toArray, .bool b]) ∧ ((idx us u = none ∧ b = false ∧ cs = zeroEnt) ∨ ∃ i x, idx us u = some i ∧ c[i]? = some x ∧ b = true ∧ entR.At (FreshU w.heap.size w') w' x cs) ∧ Ext w w'
theorem getF_ok (g : Nat) (c : List Ent) (u : Uid) (w : World) (hu : FitU u) (h : Fam w g c) :
  Calls Tryz.prog 171 #[.pointer (some ⟨g, 0, none⟩), zeu u] w (GetPost (c.map Ent.uid) c u w) := by
 obtain ⟨⟨S, bA, bB, vc, m, cnt, hst, hmp, hm, hcnt⟩, ht⟩ := h
 have HSt := q_ hst
 have HU := q_ hu
 clear hst hmp hm hcnt ht hu
 obtain ⟨t, i⟩ := u
 unfold zeu
 go_enter Tryz.func171, Tryz.ntmps171
 go_wp2_with fail
 obtain ⟨W0, hW0⟩ : ∃ W0, W0 = (w.alloc (.cells #[.string t, .string i] 23)).alloc (.cells zeroEnt.toArray 87) := ⟨_, rfl⟩
 have h2 := heap2 w (.cells #[.string t, .string i] 23) (.cells zeroEnt.toArray 87)
 change Code.wp Tryz.prog _ _ _ ((w.alloc (.cells #[.string t, .string i] 23)).alloc (.cells zeroEnt.toArray 87))
 rw [← hW0] at h2 ⊢
 obtain ⟨q0, q1, qs, qx⟩ := h2
 have HQ0 := q_ q0
 have HQ1 := q_ q1
 have HQS := q_ qs
 have HQX := q_ qx
 have HSt0 := q_ (HSt.out.ext qx)
 clear q0 q1 qs qx hW0
 obtain ⟨iv, hiv⟩ : ∃ iv, iv = (idx (c.map Ent.uid) (t, i)).getD 0 := ⟨_, rfl⟩
 obtain ⟨tb, htb⟩ : ∃ tb, tb = (idx (c.map Ent.uid) (t, i)).isSome := ⟨_, rfl⟩
 have HIv := q_ hiv
 have HTb := q_ htb
 clear hiv htb
 refine zch 11 [] [.pointer (some ⟨g, 0, none⟩), .pointer (some ⟨g, 0, none⟩), .pointer (some ⟨g, 1, none⟩), .map (some bA), .agg #[.string t, .string i], .tuple #[.int .i64 iv, .bool tb], .tuple #[.int .i64 iv, .bool tb], .int .i64 iv, .bool tb, .int .i64 iv, .bool tb] (fun _ W => Ext W0 W) (by kernel_rfl) (by kernel_rfl) (by kernel_rfl) (by kernel_rfl)
  (show Ext W0 W0.drew from ⟨⟨rfl, rfl, rfl, Nat.le_refl _, fun _ _ => rfl⟩, Nat.le_succ _⟩) (fun i' op hi hn ho vs W a hRR hold hat => ?_) (fun k' i' op hk ho vs W a hvl hRR hold hat Q' K hK => by simp at hk) ?_
 ·rcases (by omega : i' = 0 ∨ i' = 1 ∨ i' = 2 ∨ i' = 3 ∨ i' = 4 ∨ i' = 5 ∨ i' = 6 ∨ i' = 7 ∨ i' = 8 ∨ i' = 9 ∨ i' = 10) with rfl | rfl | rfl | rfl | rfl | rfl | rfl | rfl | rfl | rfl | rfl <;> obtain rfl := Option.some.inj ho
  ·exact zbd rfl (hold 0 (by kernel_rfl))
  ·exact zcg rfl (hat 0 12 (by omega) (by kernel_rfl) (by kernel_rfl))
  ·exact za8 _ _ _ rfl (hat 1 13 (by omega) (by kernel_rfl) (by kernel_rfl)) (zdh g).2.1
  ·exact za9 82 _ rfl g 1 (hat 2 14 (by omega) (by kernel_rfl) (by kernel_rfl)) Tryz.agg87 (cell_of_row _ _ 1 _ _ _ (HSt0.out.ext hRR).box)
  ·exact zat 23 _ rfl w.heap.size 0 (hold 3 (by kernel_rfl)) zbh za6 rfl (zak ((hRR.block _ (zaf HQ0.out)).trans HQ0.out))
  ·refine exec_lookup rfl (hat 3 15 (by omega) (by kernel_rfl) (by kernel_rfl)) (hat 4 16 (by omega) (by kernel_rfl) (by kernel_rfl)) (((HSt0.out.ext hRR).at'.look_at HU.out).trans ?_)
   rw [← HIv.out, ← HTb.out]; rfl
  ·exact zbd rfl (hat 5 17 (by omega) (by kernel_rfl) (by kernel_rfl))
  ·exact zbn rfl (hat 6 11 (by omega) (by kernel_rfl) (by kernel_rfl)) rfl
  ·exact zbn rfl (hat 6 11 (by omega) (by kernel_rfl) (by kernel_rfl)) rfl
  ·exact zdg rfl (hat 7 18 (by omega) (by kernel_rfl) (by kernel_rfl))
  ·exact zdg rfl (hat 8 19 (by omega) (by kernel_rfl) (by kernel_rfl))
 intro zs vs w1 hzl hvl hRR hzs
 obtain ⟨z0, z1, z2, z3, z4, z5, z6, z7, z8, z9, z10, rfl⟩ := lst11 hzl
 obtain rfl : z9 = .int .i64 iv := hzs 9 (by omega)
 obtain rfl : z10 = .bool tb := hzs 10 (by omega)
 have HX1 := q_ hRR
 have HQ1' := q_ ((hRR.block _ (zaf HQ1.out)).trans HQ1.out)
 have HSt1 := q_ (HSt0.out.ext hRR)
 clear hRR hzs hzl hvl
 simp only [List.take, List.drop, za0, Act.put, List.setIfInBounds_toArray, List.set_cons_zero, List.set_cons_succ]
 have hz1 : ∀ v ∈ zeroEnt, v.oneCell' = true := zdm rfl (by simp [zeroCells, Value.oneCell'])
 cases tb with
 | false =>
  go_wp2_with (first | (refine zbt rfl 87 _ _ rfl (w.heap.size + 1) rfl zeroEnt rfl zas rfl 87 zeroEnt.toArray HQ1'.out rfl hz1 ?_; intro w9 hw9 hg9))
  refine bodyPost_ret (v := .tuple #[.agg zeroEnt.toArray, .bool false]) (zah Tryz.results171 rfl za5 zas rfl (zak hw9)) rfl ?_
  refine ⟨zeroEnt, false, rfl, .inl ⟨?_, rfl, rfl⟩, zav (HQX.out.trans HX1.out) hg9 fun b e => by injection e with e; omega⟩
  have h := HTb.out
  cases hi : idx (c.map Ent.uid) (t, i) with
  | none => rfl
  | some j => rw [hi] at h; cases h
 | true =>
  obtain ⟨hi, hil⟩ : idx (c.map Ent.uid) (t, i) = some iv ∧ iv < c.length := by
   have h := HTb.out
   cases hi : idx (c.map Ent.uid) (t, i) with
   | none => rw [hi] at h; cases h
   | some j =>
    have h2 := HIv.out
    rw [hi] at h2
    subst h2
    exact ⟨rfl, by have := idx_lt hi; simpa using this⟩
  have HI := q_ hi
  obtain ⟨A9, c9, rfl, ⟨hb1, hb2, hb3⟩, hrow9⟩ := HSt1.out.rows
  obtain ⟨eb, eo, rfl, hSe, hrow9⟩ := hrow9 (by omega)
  obtain ⟨x, hx⟩ : ∃ x, c[iv]? = some x := ⟨_, List.getElem?_eq_getElem hil⟩
  obtain ⟨cs, hca, hxa⟩ := hrow9 iv x hx
  have HX := q_ hx
  have HCa := q_ hca
  have HXa := q_ hxa
  have hcl : cs.length = 11 := entR.len hxa
  have HCl := q_ hcl
  have HO := q_ HSt1.out.old
  have f0 : w1.cell? ⟨g, 0, none⟩ = some (.slice (some ⟨eb, eo, none⟩) c.length c9) := cell_of_row _ _ 0 _ _ _ HSt1.out.box
  rw [zaj] at hb3
  rw [zaq] at hb1
  clear hi hrow9 hx hca hxa hcl hSe
  go_wp2_with (first | refine zab rfl 87 _ rfl eb (eo + iv * 11) rfl za5 zas HCl.out HCa.out ?_)
  refine (copied_ok x S w1 cs (fun b hb => (HO.out b hb).1) HXa.out).mono ?_
  rintro e w2 ⟨cs2, rfl, hc2, hx2⟩
  have HC2 := q_ hc2
  have HX2 := q_ hx2
  have HQ2 := q_ ((hx2.block _ (zaf HQ1'.out)).trans HQ1'.out)
  clear hc2 hx2 f0
  go_wp2_with (first | (refine zbt rfl 87 _ _ rfl (w.heap.size + 1) rfl cs2 rfl zas (entR.len HC2.out) 87 zeroEnt.toArray HQ2.out (by rw [show cs2.length = 11 from entR.len HC2.out]; rfl) (entR.one HC2.out) ?_; intro w9 hw9 hg9))
  refine bodyPost_ret (v := .tuple #[.agg cs2.toArray, .bool true]) (zah Tryz.results171 rfl za5 zas (entR.len HC2.out) (zak hw9)) rfl ?_
  have s1 := HX1.out.size
  have s2 := HX2.out.size
  have s9 := hg9.size
  have sq := HQS.out
  refine ⟨cs2, true, rfl, .inr ⟨iv, x, HI.out, HX.out, rfl, ?_⟩, zav (HQX.out.trans (HX1.out.trans HX2.out)) hg9 fun b e => by injection e with e; omega⟩
  refine entR.mono (entR.alike HC2.out fun b hb => hg9.block b hb.lt fun e => ?_) fun b hb => (hb.grown hg9 fun e => ?_).low (by omega)
  ·have := hb.1
   injection e with e
   omega
  ·have := hb.1
   injection e with e
   omega
/-! ### all of them -/
def OwnD {α : Type} (R : Rep α) (T : TypeId) (base : Nat) (W : World) (v : Value) (l : List α) : Prop :=
 ∃ xs, W.ownsRow base T R.size v l.length xs ∧ R.Flat (MadeU base W v) W l xs
section
variable {α : Type} {R : Rep α} {T : TypeId} {base : Nat} {W W' : World} {v v' : Value} {l : List α}
theorem OwnD.nil : OwnD R T base W (.slice none 0 0) [] := ⟨[], World.ownsRow_nil _ _ _ _, rfl⟩
theorem MadeU.ext {b : Nat} (h : MadeU base W v b) (k : Ext W W') : MadeU base W' v b := ⟨h.1, (h.fresh.ext k).2, h.2.2⟩
theorem OwnD.ext (h : OwnD R T base W v l) (k : Ext W W') : OwnD R T base W' v l := by
 obtain ⟨xs, h1, h2⟩ := h
 exact ⟨xs, zam h1 k, (Rep.Flat.alike (Alike.of_ext k fun b hb => hb.lt) h2).mono fun b hb => hb.ext k⟩
theorem OwnD.shape (h : OwnD R T base W v l) : ∃ A cap, v = .slice A l.length cap := by
 obtain ⟨xs, h1, _⟩ := h
 exact zaz h1
theorem OwnD.lt (h : OwnD R T base W v l) : ∀ b, v.ownBlock = some b → base ≤ b ∧ b < W.heap.size := by
 obtain ⟨xs, h1, _⟩ := h
 exact h1.lt
theorem OwnD.rows (h : OwnD R T base W v l) (hl : l.length ≤ LIM) : R.RowsAt (FreshU base W) W l v := by
 obtain ⟨xs, h1, h2⟩ := h
 exact zet h1 h2 hl (fun b hb => hb.fresh) fun b hb => own_free h1 hb
theorem OwnD.push {x : α} {xs cs : List Value} (hf : R.Flat (MadeU base W v) W l xs) (hx : R.At (MadeU base W v) W x cs) (hg : GrownBy W W' v.ownBlock)
  (ho : W'.ownsRow base T R.size v' (l.length + 1) (xs ++ cs)) (hv : v'.ownBlock = v.ownBlock ∨ v'.ownBlock = some W.heap.size) : OwnD R T base W' v' (l ++ [x]) := by
 have hal : Alike (MadeU base W v) W W' := fun b hb => hg.block b hb.lt fun e => hb.2.2 e.symm
 refine ⟨xs ++ cs, by simpa using ho, ?_⟩
 refine Rep.Flat.mono (S := MadeU base W v) (fun b hb => ⟨hb.1, (hb.fresh.grown hg fun e => hb.2.2 e.symm).2, fun e => ?_⟩) (Rep.Flat.snoc (R.alike hx hal) (Rep.Flat.alike hal hf))
 rcases hv with hv | hv
 ·exact hb.2.2 (hv ▸ e)
 ·rw [hv] at e; injection e with e; have := hb.lt; omega
end
end Go.Proofs.YtebfoimbdljbmaaGreatDoor

/-
  Whether one is, or is below, another one, by the program's store. The conditions: the store lies in memory as it should.
-/
namespace Go.Proofs.YtebfoimbdljbmaaGreatDoor
open Go.RowKit
open Classical in
noncomputable def inB (c : List Ent) (a b : Uid) : Bool := decide (a = b) || decide (UpTo c a b)
end Go.Proofs.YtebfoimbdljbmaaGreatDoor
