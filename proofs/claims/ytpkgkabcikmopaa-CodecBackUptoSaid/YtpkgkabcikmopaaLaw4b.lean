/-
  The walk of layer 4's law CodecBack: it answers true. The conditions: the arguments are values that lie in old memory, of mass at most 1048576.
-/
import Derived.Test.YtpkgkabcikmopaaAwake4
import Derived.Test.YtpkgkabcikmopaaLaw3a
namespace Go.Proofs.Ytpkgkabcikmopaa
open Go.RowKit

theorem back_good {v : Val} (hf : v.Fit) (h : v.bytes.2 = 0) : v.canon.2 = 0 ∧ v.canon.1.Good ∧ v.bytes.1 = v.canon.1.enc ∧ v.canon.1.enc.length ≤ 65536 := by
  rcases v.bytes_cases with ⟨h1, e⟩ | ⟨_, _, e⟩ | ⟨h1, h2, e⟩
  · rw [e] at h; exact absurd h h1
  · rw [e] at h; simp at h
  · obtain ⟨c1, c2, c3⟩ := Val.canon_ok h1
    exact ⟨h1, ⟨canon_is h1, by rw [c2]; exact Val.can_fit v hf c3, by rw [c2, Val.can_dep c3]; exact c1⟩, by rw [e], h2⟩
theorem back_same {c d : Val} (hc : c.Good) (hd : d.Good) : (c.enc = d.enc) ↔ c = d :=
  ⟨fun h => (Val.enc_inj c d [] [] hc.1 hd.1 hc.2.1 hd.2.1 (by rw [h])).1, fun h => by rw [h]⟩
theorem exec_conv {o : Oper} {a : Act} {w : World} {x : Operand} (ho : o.op = .convert 47 9 x) {A : Option Addr} {c : Nat} {bs : List UInt8} (hx : a.eval x = .slice A bs.length c) (hs : SrcAt w A bs.length (cellsB bs)) : (execOp a.eval o).run Try.prog w = .ok (.value (.string (strOf bs))) w := by
  unfold execOp
  simp only [ho, hx, Sem.run_bind, Try.run_strOf hs, Result.andThen_ok, Sem.run_pure]
theorem exec_eqS {o : Oper} {a : Act} {w : World} {x y : Operand} {r s : ByteArray} (ho : o.op = .binOp .eql 9 x y 9) (hx : a.eval x = .string r) (hy : a.eval y = .string s) : (execOp a.eval o).run Try.prog w = .ok (.value (.bool (r.toList == s.toList))) w := by
  unfold execOp
  simp only [ho, hx, hy]
  simp [go_sem]
theorem exec_eqB {o : Oper} {a : Act} {w : World} {x y : Operand} {r s : Bool} (ho : o.op = .binOp .eql 4 x y 4) (hx : a.eval x = .bool r) (hy : a.eval y = .bool s) : (execOp a.eval o).run Try.prog w = .ok (.value (.bool (r == s))) w := by
  unfold execOp
  simp only [ho, hx, hy]
  simp [go_sem]
theorem SrcAt.ext {w w' : World} {A : Option Addr} {n : Nat} {xs : List Value} (h : SrcAt w A n xs) (k : Ext w w') : SrcAt w' A n xs := fun h0 => by
  obtain ⟨b, of, e, hc⟩ := h h0
  exact ⟨b, of, e, fun j v hj => (World.cell?_of_block (a := ⟨b, of + j, none⟩) (k.block b (block_lt_of_cell (hc j v hj)))).trans (hc j v hj)⟩
/-- the last statement's acting operations: whether the two are the same, and whether that is what it should be -/
def BackR (v0 : World) (q r : Bool) (vs : List Value) (w : World) : Prop := Ext v0 w ∧ match vs with
  | [] => True
  | [x] => x = .bool q
  | [_, y] => y = .bool r
  | _ => False
theorem list9b {α : Type} {l : List α} (h : l.length = 9) : ∃ a0 a1 a2 a3 a4 a5 a6 a7 a8, l = [a0, a1, a2, a3, a4, a5, a6, a7, a8] := by
  match l, h with
  | [_, _, _, _, _, _, _, _, _], _ => exact ⟨_, _, _, _, _, _, _, _, _, rfl⟩

set_option maxRecDepth 100000 in
set_option maxHeartbeats 3200000 in
theorem codecBack_walk (v x : Val) (w : World) (cv cx : List Value) (hv : InW w v cv) (hx : InW w x cx) (hm : v.mass ≤ 1048576) (hmx : x.mass ≤ 1048576) :
    Calls Try.prog 11 #[.agg cv.toArray, .agg cx.toArray] w fun e w' => e = .returned (.bool true) ∧ Ext w w' := by
  have hfv : v.Fit := Val.fit_of_at _ v (Nat.le_refl _) _ hv (by omega)
  have hfx : x.Fit := Val.fit_of_at _ x (Nat.le_refl _) _ hx (by omega)
  obtain ⟨r0, r1, r2, r3, r4, r5, r6, r7, r8, r9, ra, rb, rfl⟩ := Val.At.shape hv
  obtain ⟨s0, s1, s2, s3, s4, s5, s6, s7, s8, s9, sa, sb, rfl⟩ := Val.At.shape hx
  have HV := Lib.hid hv
  have HXv := Lib.hid hx
  have HFv := Lib.hid hfv
  have HFx := Lib.hid hfx
  clear hv hx hfv hfx
  go_enter Try.func11, Try.ntmps11
  go_wp2_with fail
  refine (awake4_ok _).mono ?_
  rintro e w1 ⟨rfl, hx1⟩
  have B1 := Lib.hid (((BoxAt.new w 27 [.int .i64 r0, .bool r1, .int .i64 r2, .string r3, .string r4, .string r5, .slice r6 r7 r8, .slice r9 ra rb]).ext ((Ext.refl _).alloc (.cells #[.int .i64 s0, .bool s1, .int .i64 s2, .string s3, .string s4, .string s5, .slice s6 s7 s8, .slice s9 sa sb] 27))).ext hx1)
  have B2 := Lib.hid ((BoxAt.new (w.alloc (.cells #[.int .i64 r0, .bool r1, .int .i64 r2, .string r3, .string r4, .string r5, .slice r6 r7 r8, .slice r9 ra rb] 27)) 27 [.int .i64 s0, .bool s1, .int .i64 s2, .string s3, .string s4, .string s5, .slice s6 s7 s8, .slice s9 sa sb]).ext hx1)
  simp only [World.size_alloc] at B2
  have HX1 := Lib.hid ((((Ext.refl w).alloc _).alloc _).trans hx1)
  have V1 := Lib.hid (HV.out.ext HX1.out)
  have X1 := Lib.hid (HXv.out.ext HX1.out)
  clear hx1 HV HXv
  go_wp2_with (refine wpList_load_cells rfl 27 (.tmp 2) rfl (w.heap.size) 0 rfl Try.agg27 Try.size27 rfl B1.out.2 ?_)
  refine (few_ok04 _ v 0 _ _ [_, _, _, _, _, _, _, _] (Nat.le_refl _) (by omega) (by omega) (InW.lt _) V1.out).mono ?_
  rintro e w2 ⟨rfl, hx2⟩
  have HX2 := Lib.hid hx2
  clear hx2
  go_wp2_with (refine wpList_load_cells rfl 27 (.tmp 3) rfl (w.heap.size + 1) 0 rfl Try.agg27 Try.size27 rfl (B2.out.ext HX2.out).2 ?_)
  refine (few_ok04 _ x 0 _ _ [_, _, _, _, _, _, _, _] (Nat.le_refl _) (by omega) (by omega) (InW.lt _) (X1.out.ext HX2.out)).mono ?_
  rintro e w3 ⟨rfl, hx3⟩
  have H3 := Lib.hid (HX2.out.trans hx3)
  clear hx3 HX2
  have Hdv := Lib.hid (show v.few 0 = true → v.dep ≤ 62 from Val.dep_le)
  have Hdx := Lib.hid (show x.few 0 = true → x.dep ≤ 62 from Val.dep_le)
  generalize v.few 0 = fv at *
  generalize x.few 0 = fx at *
  cases fv
  · go_wp2_with fail
    go_ret
    exact ⟨rfl, HX1.out.trans H3.out⟩
  cases fx
  · go_wp2_with fail
    go_ret
    exact ⟨rfl, HX1.out.trans H3.out⟩
  have Dv := Lib.hid (show v.dep ≤ 1000000 by have := Hdv.out rfl; omega)
  have Dx := Lib.hid (show x.dep ≤ 1000000 by have := Hdx.out rfl; omega)
  clear Hdv Hdx
  obtain ⟨d0, d1, d2, d3, d4, d5, d6, d7⟩ := (B1.out.ext H3.out).cells
  go_wp2_with fail
  clear d0 d1 d2 d3 d4 d5 d6 d7
  refine (size_ok04 _ v _ _ [_, _, _, _, _, _, _, _] (Nat.le_refl _) (InW.lt _) (V1.out.ext H3.out)).mono ?_
  rintro e w4 ⟨sz, _, rfl, hx4⟩
  have H4 := Lib.hid (H3.out.trans hx4)
  clear hx4 H3
  by_cases hsz : 400 < sz
  · have t0 : decide (400 < sz) = true := by simpa using hsz
    clear hsz
    go_wp2_with fail
    go_ret
    exact ⟨rfl, HX1.out.trans H4.out⟩
  have t0 : decide (400 < sz) = false := by simpa using hsz
  clear hsz
  obtain ⟨d0, d1, d2, d3, d4, d5, d6, d7⟩ := (B2.out.ext H4.out).cells
  go_wp2_with fail
  clear d0 d1 d2 d3 d4 d5 d6 d7 t0
  refine (size_ok04 _ x _ _ [_, _, _, _, _, _, _, _] (Nat.le_refl _) (InW.lt _) (X1.out.ext H4.out)).mono ?_
  rintro e w5 ⟨sx, _, rfl, hx5⟩
  have H5 := Lib.hid (H4.out.trans hx5)
  clear hx5 H4
  by_cases hsz : 400 < sx
  · have t0 : decide (400 < sx) = true := by simpa using hsz
    clear hsz
    go_wp2_with fail
    go_ret
    exact ⟨rfl, HX1.out.trans H5.out⟩
  have t0 : decide (400 < sx) = false := by simpa using hsz
  clear hsz
  go_wp2_with (refine wpList_load_cells rfl 27 (.tmp 2) rfl (w.heap.size) 0 rfl Try.agg27 Try.size27 rfl (B1.out.ext H5.out).2 ?_)
  clear t0
  have hg1 := back_good HFv.out
  have hg2 := back_good HFx.out
  obtain ⟨⟨zby, oe⟩, hob⟩ : ∃ r, r = v.bytes := ⟨_, rfl⟩
  obtain ⟨⟨yby, pe⟩, hpb⟩ : ∃ r, r = x.bytes := ⟨_, rfl⟩
  have h6 := encode_okP v _ _ [_, _, _, _, _, _, _, _] Dv.out (by omega) (InW.lt _) (V1.out.ext H5.out)
  have h7 := fun (W : World) (h : Ext w5 W) => encode_okP x _ W [.int .i64 s0, .bool s1, .int .i64 s2, .string s3, .string s4, .string s5, .slice s6 s7 s8, .slice s9 sa sb] Dx.out (by omega) (InW.lt _) ((X1.out.ext H5.out).ext h)
  rw [← hob] at h6 hg1
  rw [← hpb] at h7 hg2
  have HG1 := Lib.hid hg1
  have HG2 := Lib.hid hg2
  have HF7 := Lib.hid h7
  clear hob hpb h7 hg1 hg2
  refine h6.mono ?_
  clear h6
  rintro e w6 ⟨o6, rfl, hrow6, hx6⟩
  obtain ⟨A6, c6, rfl, hs6, _, _⟩ := hrow6.shape
  have HIn6 := Lib.hid hrow6.isIn
  have HS6 := Lib.hid hs6
  have HX6 := Lib.hid hx6
  have H6 := Lib.hid (H5.out.trans hx6)
  clear hrow6 hs6 hx6
  go_wp2_with (refine wpList_load_cells rfl 27 (.tmp 3) rfl (w.heap.size + 1) 0 rfl Try.agg27 Try.size27 rfl (B2.out.ext H6.out).2 ?_)
  refine (HF7.out w6 HX6.out).mono ?_
  rintro e w7 ⟨o7, rfl, hrow7, hx7⟩
  obtain ⟨A7, c7, rfl, hs7, _, _⟩ := hrow7.shape
  have HS7 := Lib.hid hs7
  have HS67 := Lib.hid (HS6.out.ext hx7)
  have HIn67 := Lib.hid (HIn6.out.ext hx7)
  have H7 := Lib.hid (H6.out.trans hx7)
  clear hrow7 hs7 hx7 HIn6 HS6 HX6
  by_cases hoe : oe = 0
  rotate_left 1
  · have t1 : (oe != 0) = true := by simpa using hoe
    clear hoe
    go_wp2_with fail
    go_ret
    exact ⟨rfl, HX1.out.trans H7.out⟩
  by_cases hpe : pe = 0
  rotate_left 1
  · have t1 : (oe != 0) = false := by simpa using hoe
    have t2 : (pe != 0) = true := by simpa using hpe
    clear hoe hpe
    go_wp2_with fail
    go_ret
    exact ⟨rfl, HX1.out.trans H7.out⟩
  obtain ⟨e1, g1, b1, l1⟩ := HG1.out hoe
  obtain ⟨e2, g2, b2, l2⟩ := HG2.out hpe
  subst hoe hpe
  obtain ⟨⟨cc, ce⟩, hcc⟩ : ∃ r, r = v.canon := ⟨_, rfl⟩
  obtain ⟨⟨dc, de⟩, hdc⟩ : ∃ r, r = x.canon := ⟨_, rfl⟩
  rw [← hcc] at e1 g1 b1 l1
  rw [← hdc] at e2 g2 b2 l2
  simp only at e1 g1 b1 l1 e2 g2 b2 l2
  subst e1 e2
  have Hcc := Lib.hid hcc
  have Hdc := Lib.hid hdc
  have G1 := Lib.hid g1
  have G2 := Lib.hid g2
  have Bb1 := Lib.hid b1
  have Bb2 := Lib.hid b2
  have L1 := Lib.hid l1
  have hobl : zby.length ≤ 65536 := by rw [b1]; exact l1
  clear hcc hdc g1 g2 b1 b2 l1 l2
  go_wp2_with fail
  refine (decode_okP zby _ _ HIn67.out (by omega)).mono ?_
  rintro e w8 ⟨pv, per, cs, rfl, hd, hat, hx8⟩
  have hu : pv = cc ∧ per = 0 := by
    have h := DecIs.good G1.out L1.out
    rw [← Bb1.out] at h
    exact hd.unique h
  obtain ⟨rfl, rfl⟩ := hu
  obtain ⟨p0, p1, p2, p3, p4, p5, p6, p7, p8, p9, pa, pb, rfl⟩ := hat.shape
  have Vp := Lib.hid ((InW.of hat fun b hb => hb.2).ext ((Ext.refl w8).alloc (.cells #[.int .i64 p0, .bool p1, .int .i64 p2, .string p3, .string p4, .string p5, .slice p6 p7 p8, .slice p9 pa pb] 27)))
  have Xp := Lib.hid (BoxAt.new w8 27 [.int .i64 p0, .bool p1, .int .i64 p2, .string p3, .string p4, .string p5, .slice p6 p7 p8, .slice p9 pa pb])
  have H8 := Lib.hid ((H7.out.trans hx8).alloc (.cells #[.int .i64 p0, .bool p1, .int .i64 p2, .string p3, .string p4, .string p5, .slice p6 p7 p8, .slice p9 pa pb] 27))
  have HS68 := Lib.hid (HS67.out.ext (hx8.alloc (.cells #[.int .i64 p0, .bool p1, .int .i64 p2, .string p3, .string p4, .string p5, .slice p6 p7 p8, .slice p9 pa pb] 27)))
  have HS78 := Lib.hid (HS7.out.ext (hx8.alloc (.cells #[.int .i64 p0, .bool p1, .int .i64 p2, .string p3, .string p4, .string p5, .slice p6 p7 p8, .slice p9 pa pb] 27)))
  clear hd hat hx8 HS67 HS7 HIn67
  go_wp2_with (refine wpList_load_cells rfl 27 (.tmp 2) rfl (w.heap.size) 0 rfl Try.agg27 Try.size27 rfl (B1.out.ext H8.out).2 ?_)
  have hc := canon_okR v _ _ [_, _, _, _, _, _, _, _] Dv.out (InW.lt _) (V1.out.ext H8.out)
  rw [← Hcc.out] at hc
  refine hc.mono ?_
  clear hc
  rintro e w9 ⟨cs, rfl, hat, hx⟩
  obtain ⟨q0, q1, q2, q3, q4, q5, q6, q7, q8, q9, qa, qb, rfl⟩ := hat.shape
  have Vq := Lib.hid ((InW.of hat fun b hb => hb.2).ext ((Ext.refl w9).alloc (.cells #[.int .i64 q0, .bool q1, .int .i64 q2, .string q3, .string q4, .string q5, .slice q6 q7 q8, .slice q9 qa qb] 27)))
  have Xq := Lib.hid (BoxAt.new w9 27 [.int .i64 q0, .bool q1, .int .i64 q2, .string q3, .string q4, .string q5, .slice q6 q7 q8, .slice q9 qa qb])
  have hxx := hx.alloc (.cells #[.int .i64 q0, .bool q1, .int .i64 q2, .string q3, .string q4, .string q5, .slice q6 q7 q8, .slice q9 qa qb] 27)
  replace Vp := Lib.hid (Vp.out.ext hxx)
  replace Xp := Lib.hid (Xp.out.ext hxx)
  replace HS68 := Lib.hid (HS68.out.ext hxx)
  replace HS78 := Lib.hid (HS78.out.ext hxx)
  have H9 := Lib.hid (H8.out.trans hxx)
  clear hx hat hxx H8
  go_wp2_with (refine wpList_load_cells rfl 27 (.tmp 3) rfl (w.heap.size + 1) 0 rfl Try.agg27 Try.size27 rfl (B2.out.ext H9.out).2 ?_)
  have hc := canon_okR x _ _ [_, _, _, _, _, _, _, _] Dx.out (InW.lt _) (X1.out.ext H9.out)
  rw [← Hdc.out] at hc
  refine hc.mono ?_
  clear hc
  rintro e wA ⟨cs, rfl, hat, hx⟩
  obtain ⟨t0, t1, t2, t3, t4, t5, t6, t7, t8, t9, ta, tb, rfl⟩ := hat.shape
  have Vt := Lib.hid ((InW.of hat fun b hb => hb.2).ext ((Ext.refl wA).alloc (.cells #[.int .i64 t0, .bool t1, .int .i64 t2, .string t3, .string t4, .string t5, .slice t6 t7 t8, .slice t9 ta tb] 27)))
  have Xt := Lib.hid (BoxAt.new wA 27 [.int .i64 t0, .bool t1, .int .i64 t2, .string t3, .string t4, .string t5, .slice t6 t7 t8, .slice t9 ta tb])
  have hxx := hx.alloc (.cells #[.int .i64 t0, .bool t1, .int .i64 t2, .string t3, .string t4, .string t5, .slice t6 t7 t8, .slice t9 ta tb] 27)
  replace Vp := Lib.hid (Vp.out.ext hxx)
  replace Xp := Lib.hid (Xp.out.ext hxx)
  replace Vq := Lib.hid (Vq.out.ext hxx)
  replace Xq := Lib.hid (Xq.out.ext hxx)
  replace HS68 := Lib.hid (HS68.out.ext hxx)
  replace HS78 := Lib.hid (HS78.out.ext hxx)
  have HA := Lib.hid (HX1.out.trans (H9.out.trans hxx))
  clear hx hat hxx H9
  obtain ⟨p_0, p_1, p_2, p_3, p_4, p_5, p_6, p_7⟩ := Xp.out.cells
  obtain ⟨q_0, q_1, q_2, q_3, q_4, q_5, q_6, q_7⟩ := Xq.out.cells
  go_wp2_with fail
  clear p_0 p_1 p_2 p_3 p_4 p_5 p_6 p_7 q_0 q_1 q_2 q_3 q_4 q_5 q_6 q_7
  refine (whole_ok _ pv pv _ _ [.int .i64 p0, .bool p1, .int .i64 p2, .string p3, .string p4, .string p5, .slice p6 p7 p8, .slice p9 pa pb] [.int .i64 q0, .bool q1, .int .i64 q2, .string q3, .string q4, .string q5, .slice q6 q7 q8, .slice q9 qa qb] (Nat.le_refl _) (InW.lt _) Vp.out Vq.out).mono ?_
  rintro e wB ⟨rfl, hxB⟩
  rw [eqB_same]
  have HSB6 := Lib.hid (HS68.out.ext hxB)
  have HSB7 := Lib.hid (HS78.out.ext hxB)
  have XqB := Lib.hid (Xq.out.ext hxB)
  have XtB := Lib.hid (Xt.out.ext hxB)
  have VqB := Lib.hid (Vq.out.ext hxB)
  have VtB := Lib.hid (Vt.out.ext hxB)
  have HB := Lib.hid (HA.out.trans hxB)
  clear hxB Xp Vp Xq Vq Xt Vt HS68 HS78
  go_wp2_with fail
  have hres : ((strOf zby).toList == (strOf yby).toList) = eqB pv dc := by
    rw [Bb1.out, Bb2.out]
    by_cases he : pv = dc
    · rw [he, eqB_same]; simp
    · rw [eqB_false.2 he, beq_eq_false_iff_ne]
      exact fun e => he ((back_same G1.out G2.out).1 (strOf_inj (toList_inj e)))
  have HRes := Lib.hid hres
  clear hres
  refine staged_region 9 [7, 8] [.slice A6 zby.length c6, .string (strOf zby), .slice A7 yby.length c7, .string (strOf yby), .bool (eqB pv dc), .agg [.int .i64 q0, .bool q1, .int .i64 q2, .string q3, .string q4, .string q5, .slice q6 q7 q8, .slice q9 qa qb].toArray, .agg [.int .i64 t0, .bool t1, .int .i64 t2, .string t3, .string t4, .string t5, .slice t6 t7 t8, .slice t9 ta tb].toArray, undef, undef] (BackR wB (eqB pv dc) true) (by kernel_rfl) (by kernel_rfl) (by kernel_rfl) (by kernel_rfl)
    ⟨⟨⟨rfl, rfl, rfl, Nat.le_refl _, fun _ _ => rfl⟩, Nat.le_succ _⟩, trivial⟩ (fun i op hi hn ho vs W a hR hold hat => ?_) (fun k i op hk ho vs W a hvl hR hold hat Q' K hK => ?_) ?_
  · have hx := hR.1
    rcases (by simp at hn; omega : i = 0 ∨ i = 1 ∨ i = 2 ∨ i = 3 ∨ i = 4 ∨ i = 5 ∨ i = 6) with rfl | rfl | rfl | rfl | rfl | rfl | rfl <;> obtain rfl := Option.some.inj ho
    · exact exec_move rfl (hold 8 (by kernel_rfl))
    · exact exec_conv rfl (hat 0 80 (by omega) (by kernel_rfl) (by kernel_rfl)) (HSB6.out.ext hx)
    · exact exec_move rfl (hold 10 (by kernel_rfl))
    · exact exec_conv rfl (hat 2 82 (by omega) (by kernel_rfl) (by kernel_rfl)) (HSB7.out.ext hx)
    · refine (exec_eqS rfl (hat 1 81 (by omega) (by kernel_rfl) (by kernel_rfl)) (hat 3 83 (by omega) (by kernel_rfl) (by kernel_rfl))).trans ?_
      rw [HRes.out]; rfl
    · exact exec_load_cells _ _ rfl w9.heap.size 0 (hold 14 (by kernel_rfl)) Try.agg27 Try.size27 rfl (XqB.out.ext hx).2
    · exact exec_load_cells _ _ rfl wA.heap.size 0 (hold 16 (by kernel_rfl)) Try.agg27 Try.size27 rfl (XtB.out.ext hx).2
  · have hk4 : k < 2 := by simpa using (List.getElem?_eq_some_iff.1 hk).1
    rcases (by omega : k = 0 ∨ k = 1) with rfl | rfl <;> obtain rfl := Option.some.inj hk <;> obtain rfl := Option.some.inj ho
    · obtain rfl := List.eq_nil_of_length_eq_zero hvl
      refine wp_enter2 (Φ := fun v w' => BackR wB (eqB pv dc) true [v] w') (exec_call Try.func20 rfl rfl rfl (map_two (hat 5 85 (by omega) (by kernel_rfl) (by kernel_rfl)) (hat 6 86 (by omega) (by kernel_rfl) (by kernel_rfl)))) ?_ hK
      refine (whole_ok _ pv dc _ W [.int .i64 q0, .bool q1, .int .i64 q2, .string q3, .string q4, .string q5, .slice q6 q7 q8, .slice q9 qa qb] [.int .i64 t0, .bool t1, .int .i64 t2, .string t3, .string t4, .string t5, .slice t6 t7 t8, .slice t9 ta tb] (Nat.le_refl _) (InW.lt _) (VqB.out.ext hR.1) (VtB.out.ext hR.1)).mono ?_
      rintro e w' ⟨rfl, hx⟩
      exact ⟨_, rfl, hR.1.trans hx, rfl⟩
    · obtain ⟨r1, rfl⟩ := list1 hvl
      obtain ⟨hx, hr1⟩ := hR
      have hr1 : r1 = .bool (eqB pv dc) := hr1
      subst hr1
      exact wp_value2 (exec_eqB rfl (hat 4 84 (by omega) (by kernel_rfl) (by kernel_rfl)) (hat 7 87 (by omega) (by kernel_rfl) (by kernel_rfl))) (hK _ _ ⟨hx, by simp⟩)
  intro ys vs W hyl hvl hR hys
  obtain ⟨r1, r2, rfl⟩ := list2 hvl
  obtain ⟨y0, y1, y2, y3, y4, y5, y6, y7, y8, rfl⟩ := list9b hyl
  have h8 : y8 = r2 := hys 8 (by omega)
  obtain ⟨hx, hr2⟩ := hR
  have hr2 : r2 = .bool true := hr2
  subst h8 hr2
  have HW := Lib.hid (HB.out.trans hx)
  clear hys hyl hvl hx
  simp only [List.take, List.drop, putAll]
  go_wp2_with fail
  go_ret
  exact ⟨rfl, HW.out⟩
end Go.Proofs.Ytpkgkabcikmopaa
