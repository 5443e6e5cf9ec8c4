/-
  Whether an expression, a request and entities are small enough, as the fourteenth layer's statements ask. The conditions: what is handed in lies in memory as it should.
-/
import Derived.Test.YtebfoimbdljbmaaGreatDoorExpMQ
import Derived.Test.YtebfoimbdljbmaaGreatDoorCrowdQ
import Derived.Test.YtebfoimbdljbmaaGreatDoorEvEQ
namespace Go.Proofs.YtebfoimbdljbmaaGreatDoor
open Go.RowKit

/-- small enough -/
structure Small14 (e : Exp) (q : Req) (l : List Ent) : Prop where
  dep : e.dep ≤ 61
  lits : e.lits 57
  ctx : q.ctx.dep ≤ 57
  crowd : CrowdE l
set_option maxRecDepth 100000 in
set_option maxHeartbeats 4000000 in
theorem fit14_ok (e : Exp) (q : Req) (l : List Ent) (w : World) (cs qc : List Value) (v : Value) (he : InX w e cs) (hq : InR w q qc) (hl : entR.RowsAt (fun b => b < w.heap.size) w l v) :
    Calls Tryz.prog 11 #[.agg cs.toArray, .agg qc.toArray, v] w (SomeBool (fun r => r = true → Small14 e q l) w) := by
  have HXe := Lib.hid he
  have HLl := Lib.hid hl
  obtain ⟨vk, vb, vn, vs, vt, vu, vA, vl, vc, vB, vm, vd, rfl, hv⟩ := hq.shape
  have HV := Lib.hid hv
  obtain ⟨eo, ev, en, eks, ens⟩ := e
  obtain ⟨lk, lb, ln, ls, lt, lu, lA, ll, lc, lB, lm, ld, eK, ec, eN, ed, hcs, _⟩ := Exp.At.shape he
  obtain rfl : cs = [.int .i64 eo, .int .i64 lk, .bool lb, .int .i64 ln, .string ls, .string lt, .string lu, .slice lA ll lc, .slice lB lm ld, .string en, .slice eK eks.length ec, .slice eN ens.length ed] := hcs
  obtain ⟨A, cap, rfl, _⟩ := id hl
  obtain ⟨p0, p1, ps, px⟩ := heapA2 w (.cells #[.int .i64 eo, .int .i64 lk, .bool lb, .int .i64 ln, .string ls, .string lt, .string lu, .slice lA ll lc, .slice lB lm ld, .string en, .slice eK eks.length ec, .slice eN ens.length ed] 30) (.cells #[.string q.pr.1, .string q.pr.2, .string q.act.1, .string q.act.2, .string q.res.1, .string q.res.2, .int .i64 vk, .bool vb, .int .i64 vn, .string vs, .string vt, .string vu, .slice vA vl vc, .slice vB vm vd] 34)
  have HE0 := Lib.hid p0
  have HQ0 := Lib.hid p1
  have HX0 := Lib.hid px
  clear p0 p1 ps px he hq hl hv
  go_enter Tryz.func11, Tryz.ntmps11
  go_wp2_with ((with_reducible refine at_load ?_; refine wpList_load_cells rfl 30 _ rfl w.heap.size 0 rfl Tryz.aggEx Tryz.sizeEx (cs := [.int .i64 eo, .int .i64 lk, .bool lb, .int .i64 ln, .string ls, .string lt, .string lu, .slice lA ll lc, .slice lB lm ld, .string en, .slice eK eks.length ec, .slice eN ens.length ed]) rfl (cells_of_row HE0.out) ?_))
  refine (fewX_ok14 (SizeOf.sizeOf (Exp.mk eo ev en eks ens)) (.mk eo ev en eks ens) 0 (fun b => b < w.heap.size) _ [.int .i64 eo, .int .i64 lk, .bool lb, .int .i64 ln, .string ls, .string lt, .string lu, .slice lA ll lc, .slice lB lm ld, .string en, .slice eK eks.length ec, .slice eN ens.length ed] (Nat.le_refl _) (by omega) (fun b hb => Nat.lt_of_lt_of_le hb HX0.out.size) (Exp.At.alike (Alike.of_ext HX0.out fun _ h => h) _ _ HXe.out)).mono ?_
  rintro e1 w1 ⟨r1, hr1, rfl, hx⟩
  have HX1 := Lib.hid (HX0.out.trans hx)
  have HE1 := Lib.hid ((hx.block _ (Blk_lt HE0.out)).trans HE0.out)
  have HQ1 := Lib.hid ((hx.block _ (Blk_lt HQ0.out)).trans HQ0.out)
  have HR1 := Lib.hid hr1
  clear hr1
  clear hx HE0 HQ0 HX0
  cases r1 with
  | false =>
    go_wp2_with fail
    go_ret
    exact ⟨false, fun h => (by cases h), rfl, HX1.out⟩
  | true =>
  have c0 : w1.cell? ⟨w.heap.size, 0, none⟩ = some (.int .i64 eo) := cell_of_row _ _ 0 _ _ _ HE1.out
  have c1 : w1.cell? ⟨w.heap.size, 1, none⟩ = some (.int .i64 lk) := cell_of_row _ _ 1 _ _ _ HE1.out
  have c2 : w1.cell? ⟨w.heap.size, 2, none⟩ = some (.bool lb) := cell_of_row _ _ 2 _ _ _ HE1.out
  have c3 : w1.cell? ⟨w.heap.size, 3, none⟩ = some (.int .i64 ln) := cell_of_row _ _ 3 _ _ _ HE1.out
  have c4 : w1.cell? ⟨w.heap.size, 4, none⟩ = some (.string ls) := cell_of_row _ _ 4 _ _ _ HE1.out
  have c5 : w1.cell? ⟨w.heap.size, 5, none⟩ = some (.string lt) := cell_of_row _ _ 5 _ _ _ HE1.out
  have c6 : w1.cell? ⟨w.heap.size, 6, none⟩ = some (.string lu) := cell_of_row _ _ 6 _ _ _ HE1.out
  have c7 : w1.cell? ⟨w.heap.size, 7, none⟩ = some (.slice lA ll lc) := cell_of_row _ _ 7 _ _ _ HE1.out
  have c8 : w1.cell? ⟨w.heap.size, 8, none⟩ = some (.slice lB lm ld) := cell_of_row _ _ 8 _ _ _ HE1.out
  have c9 : w1.cell? ⟨w.heap.size, 9, none⟩ = some (.string en) := cell_of_row _ _ 9 _ _ _ HE1.out
  have c10 : w1.cell? ⟨w.heap.size, 10, none⟩ = some (.slice eK eks.length ec) := cell_of_row _ _ 10 _ _ _ HE1.out
  have c11 : w1.cell? ⟨w.heap.size, 11, none⟩ = some (.slice eN ens.length ed) := cell_of_row _ _ 11 _ _ _ HE1.out
  go_wp2_with fail
  refine (sizeX_ok14 (SizeOf.sizeOf (Exp.mk eo ev en eks ens)) (.mk eo ev en eks ens) (fun b => b < w.heap.size) _ [.int .i64 eo, .int .i64 lk, .bool lb, .int .i64 ln, .string ls, .string lt, .string lu, .slice lA ll lc, .slice lB lm ld, .string en, .slice eK eks.length ec, .slice eN ens.length ed] (Nat.le_refl _) (fun b hb => Nat.lt_of_lt_of_le hb HX1.out.size) (Exp.At.alike (Alike.of_ext HX1.out fun _ h => h) _ _ HXe.out)).mono ?_
  rintro e2 w2 ⟨z, _, rfl, hx⟩
  have HX2 := Lib.hid (HX1.out.trans hx)
  have HE2 := Lib.hid ((hx.block _ (Blk_lt HE1.out)).trans HE1.out)
  have HQ2 := Lib.hid ((hx.block _ (Blk_lt HQ1.out)).trans HQ1.out)
  clear c0 c1 c2 c3 c4 c5 c6 c7 c8 c9 c10 c11
  clear hx HE1 HQ1 HX1
  by_cases hz : 200 < z
  · have t0 : decide (200 < z) = true := by simpa using hz
    clear hz
    go_wp2_with fail
    go_ret
    exact ⟨false, fun h => (by cases h), rfl, HX2.out⟩
  have t0 : decide (200 < z) = false := by simpa using hz
  clear hz
  go_wp2_with ((with_reducible refine at_load ?_; refine wpList_load_cells rfl 30 _ rfl w.heap.size 0 rfl Tryz.aggEx Tryz.sizeEx (cs := [.int .i64 eo, .int .i64 lk, .bool lb, .int .i64 ln, .string ls, .string lt, .string lu, .slice lA ll lc, .slice lB lm ld, .string en, .slice eK eks.length ec, .slice eN ens.length ed]) rfl (cells_of_row HE2.out) ?_))
  refine (litsX_ok14 (SizeOf.sizeOf (Exp.mk eo ev en eks ens)) (.mk eo ev en eks ens) (fun b => b < w.heap.size) _ [.int .i64 eo, .int .i64 lk, .bool lb, .int .i64 ln, .string ls, .string lt, .string lu, .slice lA ll lc, .slice lB lm ld, .string en, .slice eK eks.length ec, .slice eN ens.length ed] (Nat.le_refl _) (fun b hb => Nat.lt_of_lt_of_le hb HX2.out.size) (Exp.At.alike (Alike.of_ext HX2.out fun _ h => h) _ _ HXe.out)).mono ?_
  rintro e3 w3 ⟨r3, hr3, rfl, hx⟩
  have HX3 := Lib.hid (HX2.out.trans hx)
  have HE3 := Lib.hid ((hx.block _ (Blk_lt HE2.out)).trans HE2.out)
  have HQ3 := Lib.hid ((hx.block _ (Blk_lt HQ2.out)).trans HQ2.out)
  have HR3 := Lib.hid hr3
  clear hr3
  clear hx HE2 HQ2 HX2
  have hcv := cells_part (cs := [.int .i64 vk, .bool vb, .int .i64 vn, .string vs, .string vt, .string vu, .slice vA vl vc, .slice vB vm vd]) (pre := [.string q.pr.1, .string q.pr.2, .string q.act.1, .string q.act.2, .string q.res.1, .string q.res.2]) HQ3.out
  have HCv := Lib.hid hcv
  clear hcv t0
  go_wp2_with (first | refine wpList_load_cells rfl 27 _ rfl (w.heap.size + 1) 6 rfl Tryz.agg27 Tryz.size27 (cs := [.int .i64 vk, .bool vb, .int .i64 vn, .string vs, .string vt, .string vu, .slice vA vl vc, .slice vB vm vd]) rfl HCv.out ?_)
  refine (slight_ok14 (SizeOf.sizeOf q.ctx) q.ctx 0 (fun b => b < w.heap.size) _ [.int .i64 vk, .bool vb, .int .i64 vn, .string vs, .string vt, .string vu, .slice vA vl vc, .slice vB vm vd] (Nat.le_refl _) (by omega) (fun b hb => Nat.lt_of_lt_of_le hb HX3.out.size) (Val.At.alike (Alike.of_ext HX3.out fun _ h => h) _ _ HV.out)).mono ?_
  rintro e4 w4 ⟨r4, hr4, rfl, hx⟩
  have HX4 := Lib.hid (HX3.out.trans hx)
  have HE4 := Lib.hid ((hx.block _ (Blk_lt HE3.out)).trans HE3.out)
  have HQ4 := Lib.hid ((hx.block _ (Blk_lt HQ3.out)).trans HQ3.out)
  have HR4 := Lib.hid hr4
  clear hr4 HCv
  clear hx HE3 HQ3 HX3
  go_wp2_with fail
  refine (crowd_ok14 (fun b => b < w.heap.size) l _ _ (fun b hb => Nat.lt_of_lt_of_le hb HX4.out.size) (HLl.out.alike (Alike.of_ext HX4.out fun _ h => h))).mono ?_
  rintro e5 w5 ⟨r5, hr5, rfl, hx⟩
  have HX5 := Lib.hid (HX4.out.trans hx)
  have HE5 := Lib.hid ((hx.block _ (Blk_lt HE4.out)).trans HE4.out)
  have HQ5 := Lib.hid ((hx.block _ (Blk_lt HQ4.out)).trans HQ4.out)
  have HR5 := Lib.hid hr5
  clear hr5
  clear hx HE4 HQ4 HX4
  cases r3 with
  | false =>
    go_wp2_with fail
    go_ret
    exact ⟨false, fun h => (by cases h), rfl, HX5.out⟩
  | true =>
  cases r4 with
  | false =>
    go_wp2_with fail
    go_ret
    exact ⟨false, fun h => (by cases h), rfl, HX5.out⟩
  | true =>
  cases r5 with
  | false =>
    go_wp2_with fail
    go_ret
    exact ⟨false, fun h => (by cases h), rfl, HX5.out⟩
  | true =>
    go_wp2_with fail
    go_ret
    exact ⟨true, fun _ => ⟨by have := HR1.out (by trivial); omega, HR3.out (by trivial), by have := HR4.out (by trivial); omega, HR5.out (by trivial)⟩, rfl, HX5.out⟩
end Go.Proofs.YtebfoimbdljbmaaGreatDoor
