/-
  ConformRequests: what the statement's own function answers. The conditions: the arguments lie in memory as they should.
-/
import Derived.Test.YtjllolagcdjlnaaGreatReqRM
import Derived.Test.YtjllolagcdjlnaaGreatAwk13M
import Derived.Test.YtjllolagcdjlnaaGreatMeasM
namespace Go.Proofs.YtjllolagcdjlnaaGreat
open Go.RowKit

set_option maxRecDepth 100000 in
set_option maxHeartbeats 8000000 in
theorem conformRequests_walk (s : Sch) (q : Req) (W : World) (ss cs : List Value) (hs : Sch.At (fun b => b < W.heap.size) W s ss) (hq : Req.At (fun b => b < W.heap.size) W q cs) :
    Calls Tryz.prog 13 #[.agg ss.toArray, .agg cs.toArray] W fun e W' => e = .returned (.bool true) ∧ Ext W W' := by
  obtain ⟨v1, v2, rfl, h1, h2⟩ := id hs
  obtain ⟨A1, c1, rfl, ⟨ha0, ha1, ha2⟩, har⟩ := id h1
  obtain ⟨A2, c2, rfl, ⟨hb0, hb1, hb2⟩, hbr⟩ := id h2
  rw [LIM_eq] at ha0 hb0
  rw [maxLen_eq] at ha2 hb2
  obtain ⟨k, bo, n, t, ut, ui, A, l, c, A3, l3, c3, rfl, hv⟩ := hq.shape
  have HSs := Lib.hid hs
  have HQa := Lib.hid hq
  have HV := Lib.hid hv
  obtain ⟨p0, p1, ps, px⟩ := heapT2 W (.cells #[.slice A1 s.types.length c1, .slice A2 s.acts.length c2] 70) (.cells #[.string q.pr.1, .string q.pr.2, .string q.act.1, .string q.act.2, .string q.res.1, .string q.res.2, .int .i64 k, .bool bo, .int .i64 n, .string t, .string ut, .string ui, .slice A l c, .slice A3 l3 c3] 77)
  have HB0 := Lib.hid p0
  have HQ0 := Lib.hid p1
  have HX0 := Lib.hid px
  clear hs h1 h2 har hbr hq hv p0 p1 ps px
  go_enter Tryz.func13, Tryz.ntmps13
  go_wp2_with fail
  refine (awake13_ok _).mono ?_
  rintro e w1 ⟨rfl, hx⟩
  have HX1 := Lib.hid (HX0.out.trans hx)
  have HB1 := Lib.hid ((hx.block _ (Blk_lt HB0.out)).trans HB0.out)
  have HQ1 := Lib.hid ((hx.block _ (Blk_lt HQ0.out)).trans HQ0.out)
  clear hx HB0 HQ0
  have f0 : w1.cell? ⟨W.heap.size, 0, none⟩ = some (.slice A1 s.types.length c1) := cell_of_row _ _ 0 _ _ _ HB1.out
  have f1 : w1.cell? ⟨W.heap.size, 1, none⟩ = some (.slice A2 s.acts.length c2) := cell_of_row _ _ 1 _ _ _ HB1.out
  go_wp2_with fail
  clear f0 f1
  refine (sized_ok13 (fun b => b < W.heap.size) s [.slice A1 s.types.length c1, .slice A2 s.acts.length c2] w1 (fun b hb => Nat.lt_of_lt_of_le hb HX1.out.size) (HSs.out.alike (Alike.of_ext HX1.out fun _ h => h))).mono ?_
  rintro e w2 ⟨r1, hr1, rfl, hx⟩
  have HX2 := Lib.hid (HX1.out.trans hx)
  have HB2 := Lib.hid ((hx.block _ (Blk_lt HB1.out)).trans HB1.out)
  have HQ2 := Lib.hid ((hx.block _ (Blk_lt HQ1.out)).trans HQ1.out)
  have HR1 := Lib.hid hr1
  clear hx HB1 HQ1
  clear hr1
  have hcv := cells_part (cs := [.int .i64 k, .bool bo, .int .i64 n, .string t, .string ut, .string ui, .slice A l c, .slice A3 l3 c3]) (pre := [.string q.pr.1, .string q.pr.2, .string q.act.1, .string q.act.2, .string q.res.1, .string q.res.2]) HQ2.out
  have HCv := Lib.hid hcv
  clear hcv
  go_wp2_with (first | refine wpList_load_cells rfl 35 _ rfl (W.heap.size + 1) 6 rfl Tryz.agg27 Tryz.size27 rfl HCv.out ?_)
  clear HCv
  refine (slight_ok13 _ q.ctx 0 (fun b => b < W.heap.size) w2 [_, _, _, _, _, _, _, _] (Nat.le_refl _) (by omega) (fun b hb => Nat.lt_of_lt_of_le hb HX2.out.size) (HV.out.alike (Alike.of_ext HX2.out fun _ h => h))).mono ?_
  rintro e w3 ⟨r2, hr2, rfl, hx⟩
  have HX3 := Lib.hid (HX2.out.trans hx)
  have HB3 := Lib.hid ((hx.block _ (Blk_lt HB2.out)).trans HB2.out)
  have HQ3 := Lib.hid ((hx.block _ (Blk_lt HQ2.out)).trans HQ2.out)
  have HR2 := Lib.hid hr2
  clear hx HB2 HQ2
  clear hr2
  cases r1 with
  | false =>
    go_wp2_with fail
    go_ret
    exact ⟨rfl, HX3.out⟩
  | true =>
  cases r2 with
  | false =>
    go_wp2_with fail
    go_ret
    exact ⟨rfl, HX3.out⟩
  | true =>
  have HSz := Lib.hid (HR1.out rfl)
  have HDp : Hid (q.ctx.dep ≤ 1000000) := Lib.hid (by have := HR2.out rfl; omega)
  clear HR1 HR2
  have f0 : w3.cell? ⟨W.heap.size, 0, none⟩ = some (.slice A1 s.types.length c1) := cell_of_row _ _ 0 _ _ _ HB3.out
  have f1 : w3.cell? ⟨W.heap.size, 1, none⟩ = some (.slice A2 s.acts.length c2) := cell_of_row _ _ 1 _ _ _ HB3.out
  go_wp2_with fail
  clear f0 f1
  refine (check12_ok (fun b => b < W.heap.size) s [.slice A1 s.types.length c1, .slice A2 s.acts.length c2] w3 HSz.out (fun b hb => Nat.lt_of_lt_of_le hb HX3.out.size) (HSs.out.alike (Alike.of_ext HX3.out fun _ h => h))).mono ?_
  rintro e w4 ⟨z, hz, rfl, hx⟩
  have HX4 := Lib.hid (HX3.out.trans hx)
  have HB4 := Lib.hid ((hx.block _ (Blk_lt HB3.out)).trans HB3.out)
  have HQ4 := Lib.hid ((hx.block _ (Blk_lt HQ3.out)).trans HQ3.out)
  have HZ := Lib.hid hz
  clear hx HB3 HQ3
  clear hz
  by_cases h0 : z = 0
  case neg =>
    have e0 : (z != 0) = true := by simpa using h0
    clear h0
    go_wp2_with fail
    go_ret
    exact ⟨rfl, HX4.out⟩
  subst h0
  have HOk := Lib.hid (HZ.out rfl)
  clear HZ
  have KP : Hid (∀ X, Ext w4 X → Calls Tryz.prog 46 #[.agg #[.slice A1 s.types.length c1, .slice A2 s.acts.length c2], .agg #[.string q.pr.1, .string q.pr.2, .string q.act.1, .string q.act.2, .string q.res.1, .string q.res.2, .int .i64 k, .bool bo, .int .i64 n, .string t, .string ut, .string ui, .slice A l c, .slice A3 l3 c3]] X fun e w' => e = .returned (.int .i64 (reqAns s q)) ∧ Ext X w') := Lib.hid fun X hX =>
    requestP_ok (fun b => b < W.heap.size) s [.slice A1 s.types.length c1, .slice A2 s.acts.length c2] q [.string q.pr.1, .string q.pr.2, .string q.act.1, .string q.act.2, .string q.res.1, .string q.res.2, .int .i64 k, .bool bo, .int .i64 n, .string t, .string ut, .string ui, .slice A l c, .slice A3 l3 c3] X HDp.out (fun b hb => Nat.lt_of_lt_of_le hb (HX4.out.trans hX).size) (HSs.out.alike (Alike.of_ext (HX4.out.trans hX) fun _ h => h)) (HQa.out.alike (Alike.of_ext (HX4.out.trans hX) fun _ h => h))
  have KR : Hid (∀ X, Ext w4 X → Calls Tryz.prog 47 #[.agg #[.slice A1 s.types.length c1, .slice A2 s.acts.length c2], .agg #[.string q.pr.1, .string q.pr.2, .string q.act.1, .string q.act.2, .string q.res.1, .string q.res.2, .int .i64 k, .bool bo, .int .i64 n, .string t, .string ut, .string ui, .slice A l c, .slice A3 l3 c3]] X fun e w' => e = .returned (.int .i64 (reqAns s q)) ∧ Ext X w') := Lib.hid fun X hX =>
    requestR_ok (fun b => b < W.heap.size) s [.slice A1 s.types.length c1, .slice A2 s.acts.length c2] q [.string q.pr.1, .string q.pr.2, .string q.act.1, .string q.act.2, .string q.res.1, .string q.res.2, .int .i64 k, .bool bo, .int .i64 n, .string t, .string ut, .string ui, .slice A l c, .slice A3 l3 c3] X HDp.out HOk.out.2.1 (fun b hb => Nat.lt_of_lt_of_le hb (HX4.out.trans hX).size) (HSs.out.alike (Alike.of_ext (HX4.out.trans hX) fun _ h => h)) (HQa.out.alike (Alike.of_ext (HX4.out.trans hX) fun _ h => h))
  have f0 := cell_regrown (show w4.cell? ⟨W.heap.size, 0, none⟩ = some (.slice A1 s.types.length c1) from cell_of_row _ _ 0 _ _ _ HB4.out)
  have f1 := cell_regrown (show w4.cell? ⟨W.heap.size, 1, none⟩ = some (.slice A2 s.acts.length c2) from cell_of_row _ _ 1 _ _ _ HB4.out)
  have g0 := cell_regrown (show w4.cell? ⟨W.heap.size + 1, 0, none⟩ = some (.string q.pr.1) from cell_of_row _ _ 0 _ _ _ HQ4.out)
  have g1 := cell_regrown (show w4.cell? ⟨W.heap.size + 1, 1, none⟩ = some (.string q.pr.2) from cell_of_row _ _ 1 _ _ _ HQ4.out)
  have g2 := cell_regrown (show w4.cell? ⟨W.heap.size + 1, 2, none⟩ = some (.string q.act.1) from cell_of_row _ _ 2 _ _ _ HQ4.out)
  have g3 := cell_regrown (show w4.cell? ⟨W.heap.size + 1, 3, none⟩ = some (.string q.act.2) from cell_of_row _ _ 3 _ _ _ HQ4.out)
  have g4 := cell_regrown (show w4.cell? ⟨W.heap.size + 1, 4, none⟩ = some (.string q.res.1) from cell_of_row _ _ 4 _ _ _ HQ4.out)
  have g5 := cell_regrown (show w4.cell? ⟨W.heap.size + 1, 5, none⟩ = some (.string q.res.2) from cell_of_row _ _ 5 _ _ _ HQ4.out)
  have g6 := cell_regrown (show w4.cell? ⟨W.heap.size + 1, 6, none⟩ = some (.int .i64 k) from cell_of_row _ _ 6 _ _ _ HQ4.out)
  have g7 := cell_regrown (show w4.cell? ⟨W.heap.size + 1, 7, none⟩ = some (.bool bo) from cell_of_row _ _ 7 _ _ _ HQ4.out)
  have g8 := cell_regrown (show w4.cell? ⟨W.heap.size + 1, 8, none⟩ = some (.int .i64 n) from cell_of_row _ _ 8 _ _ _ HQ4.out)
  have g9 := cell_regrown (show w4.cell? ⟨W.heap.size + 1, 9, none⟩ = some (.string t) from cell_of_row _ _ 9 _ _ _ HQ4.out)
  have g10 := cell_regrown (show w4.cell? ⟨W.heap.size + 1, 10, none⟩ = some (.string ut) from cell_of_row _ _ 10 _ _ _ HQ4.out)
  have g11 := cell_regrown (show w4.cell? ⟨W.heap.size + 1, 11, none⟩ = some (.string ui) from cell_of_row _ _ 11 _ _ _ HQ4.out)
  have g12 := cell_regrown (show w4.cell? ⟨W.heap.size + 1, 12, none⟩ = some (.slice A l c) from cell_of_row _ _ 12 _ _ _ HQ4.out)
  have g13 := cell_regrown (show w4.cell? ⟨W.heap.size + 1, 13, none⟩ = some (.slice A3 l3 c3) from cell_of_row _ _ 13 _ _ _ HQ4.out)
  generalize reqAns s q = ans at *
  go_wp2_with fail
  refine region_later (by kernel_rfl) (by kernel_rfl) ?_
  iterate 2 (go_big_quiet_step (fail))
  go_big_quiet_step ((go_at_call 46; exact later_call KP.out _ _))
  iterate 2 (go_big_quiet_step (fail))
  go_big_quiet_step ((go_at_call 47; exact later_call KR.out _ _))
  iterate 2 (go_big_quiet_step (fail))
  refine wpQuiet_nil ?_
  intro w6 hw6
  have HX6 := Lib.hid (HX4.out.trans hw6)
  clear hw6 KP KR f0 f1 g0 g1 g2 g3 g4 g5 g6 g7 g8 g9 g10 g11 g12 g13
  go_wp2_with fail
  go_ret
  exact ⟨ret_bool (by simp), HX6.out⟩
end Go.Proofs.YtjllolagcdjlnaaGreat
