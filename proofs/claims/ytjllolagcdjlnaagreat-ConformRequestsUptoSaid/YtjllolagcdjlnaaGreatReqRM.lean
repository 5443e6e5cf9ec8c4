/-
  The document's answer for a request. The conditions: the schema and the request lie in memory as they should; of the schema's types, sets have one element's type.
-/
import Derived.Test.YtjllolagcdjlnaaGreatCheck12M
import Derived.Test.YtjllolagcdjlnaaGreatReqPM
import Derived.Test.YtjllolagcdjlnaaGreatConRM
namespace Go.Proofs.YtjllolagcdjlnaaGreat
open Go.RowKit

theorem box8c {w : World} {g : Nat} {T : TypeId} {a b c d e f x y : Value} (h : w.heap[g]? = some (.cells #[a, b, c, d, e, f, x, y] T (0, 0))) : w.cell? ⟨g, 0, none⟩ = some a ∧ w.cell? ⟨g, 1, none⟩ = some b ∧ w.cell? ⟨g, 2, none⟩ = some c ∧ w.cell? ⟨g, 3, none⟩ = some d ∧
    w.cell? ⟨g, 4, none⟩ = some e ∧ w.cell? ⟨g, 5, none⟩ = some f ∧ w.cell? ⟨g, 6, none⟩ = some x ∧ w.cell? ⟨g, 7, none⟩ = some y :=
  ⟨cell_of_row _ _ 0 _ _ _ h, cell_of_row _ _ 1 _ _ _ h, cell_of_row _ _ 2 _ _ _ h, cell_of_row _ _ 3 _ _ _ h, cell_of_row _ _ 4 _ _ _ h, cell_of_row _ _ 5 _ _ _ h, cell_of_row _ _ 6 _ _ _ h, cell_of_row _ _ 7 _ _ _ h⟩
theorem reqAns_none {s : Sch} {q : Req} (h : sacIdx s.acts q.act.2 = none) : reqAns s q = 41 := by unfold reqAns; rw [h]
theorem reqAns_some {s : Sch} {q : Req} {i : Nat} {a : ActT} (h : sacIdx s.acts q.act.2 = some i) (ha : s.acts[i]? = some a) : reqAns s q = if q.act.1 ≠ tAct ∨ ¬ (a.prs.any fun x => decide (x = q.pr.1)) ∨ ¬ (a.res.any fun x => decide (x = q.res.1)) then 41
        else if q.ctx.canon.2 ≠ 0 then q.ctx.canon.2 else if Ty.takes (.mk 8 ByteArray.empty [] a.ctx) q.ctx.canon.1 then 0 else 41 := by unfold reqAns; rw [h]; simp only [ha]

set_option maxRecDepth 100000 in
set_option maxHeartbeats 8000000 in
theorem requestR_ok (S : Nat → Prop) (s : Sch) (ss : List Value) (q : Req) (cs : List Value) (w : World) (hd : q.ctx.dep ≤ 1000000) (ho : ∀ a ∈ s.acts, (Ty.mk 8 ByteArray.empty [] a.ctx).ones = true) (hS : ∀ b, S b → b < w.heap.size) (hs : Sch.At S w s ss) (hq : Req.At S w q cs) :
    Calls Tryz.prog 47 #[.agg ss.toArray, .agg cs.toArray] w fun e w' => e = .returned (.int .i64 (reqAns s q)) ∧ Ext w w' := by
  obtain ⟨v1, v2, rfl, h1, h2⟩ := id hs
  obtain ⟨A1, c1, rfl, ⟨ha0, ha1, ha2⟩, har⟩ := id h1
  obtain ⟨A2, c2, rfl, ⟨hb0, hb1, hb2⟩, hbr⟩ := id h2
  rw [LIM_eq] at ha0 hb0
  rw [maxLen_eq] at ha2 hb2
  obtain ⟨k, bo, n, t, ut, ui, A, l, c, A3, l3, c3, rfl, hv⟩ := hq.shape
  have HS := Lib.hid hS
  have HSs := Lib.hid hs
  have HC := Lib.hid hbr
  have HV := Lib.hid hv
  have HO := Lib.hid ho
  have HD := Lib.hid hd
  obtain ⟨p0, p1, ps, px⟩ := heapT2 w (.cells #[.slice A1 s.types.length c1, .slice A2 s.acts.length c2] 70) (.cells #[.string q.pr.1, .string q.pr.2, .string q.act.1, .string q.act.2, .string q.res.1, .string q.res.2, .int .i64 k, .bool bo, .int .i64 n, .string t, .string ut, .string ui, .slice A l c, .slice A3 l3 c3] 77)
  have HB0 := Lib.hid p0
  have HQ0 := Lib.hid p1
  have HX0 := Lib.hid px
  clear hS hs h1 h2 har hbr hq hv ho hd p0 p1 ps px
  by_cases hac : q.act.1.toList = [65, 99, 116, 105, 111, 110]
  case neg =>
    have hne : q.act.1 ≠ tAct := fun h => hac (by rw [h]; exact tAct_list)
    have HNe := Lib.hid hne
    have e1 : (q.act.1.toList == [65, 99, 116, 105, 111, 110]) = false := by simpa using hac
    have hans : reqAns s q = 41 := by
      cases hi : sacIdx s.acts q.act.2 with
      | none => exact reqAns_none hi
      | some i =>
        obtain ⟨a, ha, _⟩ := fidx_lt hi
        rw [reqAns_some hi ha, if_pos (.inl hne)]
    have HAns := Lib.hid hans
    obtain ⟨p, hp⟩ : ∃ p, pos (sacIdx s.acts q.act.2) = p := ⟨_, rfl⟩
    have Hp := Lib.hid hp
    clear hac hne hans hp
    rw [HAns.out]
    go_enter Tryz.func47, Tryz.ntmps47
    go_wp2_with fail
    refine (sacR_ok S s [.slice A1 s.types.length c1, .slice A2 s.acts.length c2] q.act.2 _ (fun b hb => Nat.lt_of_lt_of_le (HS.out b hb) HX0.out.size) (HSs.out.alike (Alike.of_ext HX0.out HS.out))).mono ?_
    rintro e w1 ⟨rfl, hx1⟩
    rw [Hp.out]
    have HX1 := Lib.hid (HX0.out.trans hx1)
    have d2 : w1.cell? ⟨w.heap.size + 1, 2, none⟩ = some (.string q.act.1) := cell_of_row _ _ 2 _ _ _ ((hx1.block _ (Blk_lt HQ0.out)).trans HQ0.out)
    clear hx1
    by_cases hneg : p < 0
    all_goals
      go_wp2_with fail
      go_ret
      exact ⟨rfl, HX1.out⟩
  have hact : q.act.1 = tAct := tAct_of hac
  have HAct := Lib.hid hact
  have e1 : (q.act.1.toList == [65, 99, 116, 105, 111, 110]) = true := by simpa using hac
  clear hac hact
  cases hi : sacIdx s.acts q.act.2 with
  | none =>
    have HAns := Lib.hid (reqAns_none hi)
    have Hp : Hid (pos (sacIdx s.acts q.act.2) = -1) := Lib.hid (by rw [hi]; rfl)
    clear hi
    rw [HAns.out]
    go_enter Tryz.func47, Tryz.ntmps47
    go_wp2_with fail
    refine (sacR_ok S s [.slice A1 s.types.length c1, .slice A2 s.acts.length c2] q.act.2 _ (fun b hb => Nat.lt_of_lt_of_le (HS.out b hb) HX0.out.size) (HSs.out.alike (Alike.of_ext HX0.out HS.out))).mono ?_
    rintro e w1 ⟨rfl, hx1⟩
    rw [Hp.out]
    have HX1 := Lib.hid (HX0.out.trans hx1)
    clear hx1
    go_wp2_with fail
    go_ret
    exact ⟨rfl, HX1.out⟩
  | some i =>
    obtain ⟨a, ha, _⟩ := fidx_lt hi
    have hil := (List.getElem?_eq_some_iff.1 ha).1
    have HA0 := Lib.hid (reqAns_some hi ha)
    have Hp : Hid (pos (sacIdx s.acts q.act.2) = (i : Int)) := Lib.hid (by rw [hi]; rfl)
    have HOa := Lib.hid (HO.out a (List.mem_of_getElem? ha))
    obtain ⟨b, o, eA, hSb, hrow⟩ := HC.out (by omega)
    subst eA
    obtain ⟨ca, hca, ⟨u1, u2, u3, u4, rfl, _, hins, hprs, hres, hctx⟩⟩ := hrow i a ha
    obtain ⟨Pa, pc, rfl, _⟩ := id hprs
    obtain ⟨Ra, rc, rfl, _⟩ := id hres
    obtain ⟨Ca, cc, rfl, ⟨_, _, _⟩, _⟩ := id hctx
    have Hprs := Lib.hid hprs
    have Hres := Lib.hid hres
    have Hctx := Lib.hid hctx
    have Hprsc := Lib.hid (show w.cell? ⟨b, o + i * 5 + 2, none⟩ = some (.slice Pa a.prs.length pc) from hca 2 _ rfl)
    have Hresc := Lib.hid (show w.cell? ⟨b, o + i * 5 + 3, none⟩ = some (.slice Ra a.res.length rc) from hca 3 _ rfl)
    have Hctxc := Lib.hid (show w.cell? ⟨b, o + i * 5 + 4, none⟩ = some (.slice Ca a.ctx.length cc) from hca 4 _ rfl)
    generalize reqAns s q = ans at *
    clear hi ha hSb hrow hca hins hprs hres hctx
    go_enter Tryz.func47, Tryz.ntmps47
    go_wp2_with fail
    refine (sacR_ok S s [.slice A1 s.types.length c1, .slice (some ⟨b, o, none⟩) s.acts.length c2] q.act.2 _ (fun b hb => Nat.lt_of_lt_of_le (HS.out b hb) HX0.out.size) (HSs.out.alike (Alike.of_ext HX0.out HS.out))).mono ?_
    rintro e w1 ⟨rfl, hx1⟩
    rw [Hp.out]
    have HX1 := Lib.hid (HX0.out.trans hx1)
    have HB1 := Lib.hid ((hx1.block _ (Blk_lt HB0.out)).trans HB0.out)
    have HQ1 := Lib.hid ((hx1.block _ (Blk_lt HQ0.out)).trans HQ0.out)
    have d2 : w1.cell? ⟨w.heap.size + 1, 2, none⟩ = some (.string q.act.1) := cell_of_row _ _ 2 _ _ _ HQ1.out
    clear hx1 HX0 HB0 HQ0
    obtain ⟨p1, hp1⟩ : ∃ p1, (a.prs.any fun x => decide (x = q.pr.1)) = p1 := ⟨_, rfl⟩
    have Hp1 := Lib.hid hp1
    have KH : Hid (∀ X, Ext w1 X → Calls Tryz.prog 95 #[.slice Pa a.prs.length pc, .string q.pr.1] X fun e w' => e = .returned (.bool p1) ∧ Ext X w') := Lib.hid fun X hX => by
      have h := has_ok13 S a.prs (.slice Pa a.prs.length pc) q.pr.1 X (Hprs.out.alike (Alike.of_ext (HX1.out.trans hX) HS.out))
      rw [hp1] at h
      exact h.mono fun e w' hh => ⟨hh.1, hh.2 ▸ Ext.refl X⟩
    have f0 := cell_regrown (show w1.cell? ⟨w.heap.size, 1, none⟩ = some (.slice (some ⟨b, o, none⟩) s.acts.length c2) from cell_of_row _ _ 1 _ _ _ HB1.out)
    have f1 := cell_regrown (HX1.out.cell Hprsc.out)
    have f2 := cell_regrown (show w1.cell? ⟨w.heap.size + 1, 0, none⟩ = some (.string q.pr.1) from cell_of_row _ _ 0 _ _ _ HQ1.out)
    clear hp1
    go_wp2_with fail
    refine region_later (by kernel_rfl) (by kernel_rfl) ?_
    iterate 9 (go_big_quiet_step (fail))
    go_big_quiet_step ((go_at_call 95; exact later_call KH.out _ _))
    iterate 1 (go_big_quiet_step (fail))
    refine wpQuiet_nil ?_
    intro w2 hw5
    have HX2 := Lib.hid (HX1.out.trans hw5)
    have HB2 := Lib.hid ((hw5.block _ (Blk_lt HB1.out)).trans HB1.out)
    have HQ2 := Lib.hid ((hw5.block _ (Blk_lt HQ1.out)).trans HQ1.out)
    clear d2 e1 hw5 f0 f1 f2 KH HB1 HQ1

    obtain ⟨p2, hp2⟩ : ∃ p2, (a.res.any fun x => decide (x = q.res.1)) = p2 := ⟨_, rfl⟩
    have Hp2 := Lib.hid hp2
    have KH : Hid (∀ X, Ext w2 X → Calls Tryz.prog 95 #[.slice Ra a.res.length rc, .string q.res.1] X fun e w' => e = .returned (.bool p2) ∧ Ext X w') := Lib.hid fun X hX => by
      have h := has_ok13 S a.res (.slice Ra a.res.length rc) q.res.1 X (Hres.out.alike (Alike.of_ext (HX2.out.trans hX) HS.out))
      rw [hp2] at h
      exact h.mono fun e w' hh => ⟨hh.1, hh.2 ▸ Ext.refl X⟩
    have f0 := cell_regrown (show w2.cell? ⟨w.heap.size, 1, none⟩ = some (.slice (some ⟨b, o, none⟩) s.acts.length c2) from cell_of_row _ _ 1 _ _ _ HB2.out)
    have f1 := cell_regrown (HX2.out.cell Hresc.out)
    have f2 := cell_regrown (show w2.cell? ⟨w.heap.size + 1, 4, none⟩ = some (.string q.res.1) from cell_of_row _ _ 4 _ _ _ HQ2.out)
    clear hp2
    go_wp2_with fail
    refine region_later (by kernel_rfl) (by kernel_rfl) ?_
    iterate 9 (go_big_quiet_step (fail))
    go_big_quiet_step ((go_at_call 95; exact later_call KH.out _ _))
    iterate 1 (go_big_quiet_step (fail))
    refine wpQuiet_nil ?_
    intro w3 hw5
    have HX3 := Lib.hid (HX2.out.trans hw5)
    have HB3 := Lib.hid ((hw5.block _ (Blk_lt HB2.out)).trans HB2.out)
    have HQ3 := Lib.hid ((hw5.block _ (Blk_lt HQ2.out)).trans HQ2.out)
    clear hw5 f0 f1 f2 KH HB2 HQ2

    cases p1 with
    | false =>
      go_wp2_with fail
      go_ret
      exact ⟨ret_int (by rw [HA0.out, if_pos (.inr (.inl (by rw [Hp1.out]; simp)))]), HX3.out⟩
    | true =>
    cases p2 with
    | false =>
      go_wp2_with fail
      go_ret
      exact ⟨ret_int (by rw [HA0.out, if_pos (.inr (.inr (by rw [Hp2.out]; simp)))]), HX3.out⟩
    | true =>
    have HA1 : Hid (ans = if q.ctx.canon.2 ≠ 0 then q.ctx.canon.2 else if Ty.takes (.mk 8 ByteArray.empty [] a.ctx) q.ctx.canon.1 then 0 else 41) := Lib.hid (by rw [HA0.out, if_neg (by rw [Hp1.out, Hp2.out]; simp [HAct.out])])
    have HCx := Lib.hid (cells_part (cs := [.int .i64 k, .bool bo, .int .i64 n, .string t, .string ut, .string ui, .slice A l c, .slice A3 l3 c3]) (pre := [.string q.pr.1, .string q.pr.2, .string q.act.1, .string q.act.2, .string q.res.1, .string q.res.2]) HQ3.out)
    clear HA0 Hp1 Hp2 HAct
    go_wp2_with (first | refine wpList_load_cells rfl 35 _ rfl (w.heap.size + 1) 6 rfl Tryz.agg27 Tryz.size27 rfl HCx.out ?_)
    refine (canon_okR q.ctx S _ [_, _, _, _, _, _, _, _] HD.out (fun b hb => Nat.lt_of_lt_of_le (HS.out b hb) HX3.out.size) (HV.out.alike (Alike.of_ext HX3.out HS.out))).mono ?_
    rintro e w4 ⟨cc3, rfl, hc3, hx4⟩
    obtain ⟨k4, b4, n4, t4, ut4, ui4, A5, l5, c5, A6, l6, c6, rfl⟩ := hc3.shape
    have HX4 := Lib.hid (HX3.out.trans hx4)
    have HB4 := Lib.hid ((hx4.block _ (Blk_lt HB3.out)).trans HB3.out)
    have HC3 := Lib.hid hc3
    obtain ⟨er, her⟩ : ∃ er, q.ctx.canon.2 = er := ⟨_, rfl⟩
    rw [her] at HA1 ⊢
    have HEr := Lib.hid her
    clear hc3 hx4 her HCx
    by_cases h0 : er = 0
    case neg =>
      have e0 : (er != 0) = true := by simpa using h0
      have H0 := Lib.hid h0
      clear h0
      go_wp2_with fail
      go_ret
      exact ⟨ret_int (by rw [HA1.out, if_pos H0.out]), HX4.out.alloc _⟩
    subst h0
    obtain ⟨tb, htb⟩ : ∃ tb, Ty.takes (.mk 8 ByteArray.empty [] a.ctx) q.ctx.canon.1 = tb := ⟨_, rfl⟩
    rw [htb] at HA1
    obtain ⟨w5, hw5⟩ : ∃ w5, w5 = w4.alloc (.cells #[.int .i64 k4, .bool b4, .int .i64 n4, .string t4, .string ut4, .string ui4, .slice A5 l5 c5, .slice A6 l6 c6] 35) := ⟨_, rfl⟩
    have hx5 : Ext w4 w5 := by rw [hw5]; exact (Ext.refl w4).alloc _
    have hn5 : w5.heap[w4.heap.size]? = some (.cells #[.int .i64 k4, .bool b4, .int .i64 n4, .string t4, .string ut4, .string ui4, .slice A5 l5 c5, .slice A6 l6 c6] 35 (0, 0)) := by rw [hw5]; exact heap_alloc_new _ _
    have HX5 := Lib.hid (HX4.out.trans hx5)
    have KV : Hid (∀ X, Ext w5 X → Calls Tryz.prog 38 #[.agg #[.int .i64 k4, .bool b4, .int .i64 n4, .string t4, .string ut4, .string ui4, .slice A5 l5 c5, .slice A6 l6 c6], .agg #[.int .i64 8, .string ByteArray.empty, .slice none 0 0, .slice Ca a.ctx.length cc]] X fun e w' => e = .returned (.bool tb) ∧ Ext X w') := Lib.hid fun X hX => by
      have hxx := hx5.trans hX
      have h := takesR_ok _ q.ctx.canon.1 (Nat.le_refl _) (canon_is HEr.out) q.ctx.canon.1 (by simp) (.mk 8 ByteArray.empty [] a.ctx) HOa.out (fun b => b < X.heap.size) X [.int .i64 k4, .bool b4, .int .i64 n4, .string t4, .string ut4, .string ui4, .slice A5 l5 c5, .slice A6 l6 c6] [.int .i64 8, .string ByteArray.empty, .slice none 0 0, .slice Ca a.ctx.length cc] (fun _ h => h)
        ((HC3.out.mono fun b hb => hb.2).alike (Alike.of_ext hxx fun b hb => hb) |>.mono fun b hb => Nat.lt_of_lt_of_le hb hxx.size) (Ty.At.of (by unfold I64; omega) (by rw [maxLen_eq]; decide) (Rep.RowsAt.nil _ _) ((Hctx.out.alike (Alike.of_ext (HX5.out.trans hX) HS.out)).mono fun b hb => Nat.lt_of_lt_of_le (HS.out b hb) (HX5.out.trans hX).size))
      rw [htb] at h
      exact h
    have f0 := cell_regrown (show w5.cell? ⟨w.heap.size, 1, none⟩ = some (.slice (some ⟨b, o, none⟩) s.acts.length c2) from cell_of_row _ _ 1 _ _ _ ((hx5.block _ (Blk_lt HB4.out)).trans HB4.out))
    have f1 := cell_regrown (HX5.out.cell Hctxc.out)
    obtain ⟨i0, i1, i2, i3, i4, i5, i6, i7⟩ := box8c hn5
    have i0 := cell_regrown i0
    have i1 := cell_regrown i1
    have i2 := cell_regrown i2
    have i3 := cell_regrown i3
    have i4 := cell_regrown i4
    have i5 := cell_regrown i5
    have i6 := cell_regrown i6
    have i7 := cell_regrown i7
    clear htb hx5 hn5
    subst hw5
    go_wp2_with fail
    refine region_later (by kernel_rfl) (by kernel_rfl) ?_
    iterate 8 (go_big_quiet_step (fail))
    go_big_quiet_step ((go_at_call 38; exact later_call KV.out _ _))
    iterate 1 (go_big_quiet_step (fail))
    refine wpQuiet_nil ?_
    intro w6 hw6
    have HX6 := Lib.hid (HX5.out.trans hw6)
    clear hw6 f0 f1 i0 i1 i2 i3 i4 i5 i6 i7 KV
    cases tb
    all_goals
      go_wp2_with fail
      go_ret
      exact ⟨ret_int (by rw [HA1.out]; simp), HX6.out⟩
end Go.Proofs.YtjllolagcdjlnaaGreat
