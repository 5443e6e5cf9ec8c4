/-
  The walk of layer 3's law ValueLaws: it answers true. The conditions: the arguments are values that lie in old memory.
-/
import Derived.Test.YtpkgkabcikmopaaLaw3a
import Derived.Test.YtpkgkabcikmopaaBox
import Derived.Test.YtpkgkabcikmopaaLawsP
namespace Go.Proofs.Ytpkgkabcikmopaa
open Go.RowKit

set_option maxRecDepth 100000 in
set_option maxHeartbeats 3200000 in
theorem valueLaws_walk (a b c : Val) (w : World) (ca cb cc : List Value) (ha : InW w a ca) (hb : InW w b cb) (hc : InW w c cc) :
    Calls Try.prog 5 #[.agg ca.toArray, .agg cb.toArray, .agg cc.toArray] w fun e w' => e = .returned (.bool true) ∧ Ext w w' := by
  obtain ⟨p0, p1, p2, p3, p4, p5, p6, p7, p8, p9, pa, pb, rfl⟩ := Val.At.shape ha
  obtain ⟨q0, q1, q2, q3, q4, q5, q6, q7, q8, q9, qa, qb, rfl⟩ := Val.At.shape hb
  obtain ⟨r0, r1, r2, r3, r4, r5, r6, r7, r8, r9, ra, rb, rfl⟩ := Val.At.shape hc
  have HA := Lib.hid ha
  have HB := Lib.hid hb
  have HC := Lib.hid hc
  clear ha hb hc
  go_enter Try.func5, Try.ntmps5
  go_wp2_with fail
  refine (awake3_ok _).mono ?_
  rintro e w1 ⟨rfl, hx1⟩
  have B1 := Lib.hid (((BoxAt.new w 27 [.int .i64 p0, .bool p1, .int .i64 p2, .string p3, .string p4, .string p5, .slice p6 p7 p8, .slice p9 pa pb]).ext (((Ext.refl _).alloc (.cells #[.int .i64 q0, .bool q1, .int .i64 q2, .string q3, .string q4, .string q5, .slice q6 q7 q8, .slice q9 qa qb] 27)).alloc (.cells #[.int .i64 r0, .bool r1, .int .i64 r2, .string r3, .string r4, .string r5, .slice r6 r7 r8, .slice r9 ra rb] 27))).ext hx1)
  have B2 := Lib.hid (((BoxAt.new (w.alloc (.cells #[.int .i64 p0, .bool p1, .int .i64 p2, .string p3, .string p4, .string p5, .slice p6 p7 p8, .slice p9 pa pb] 27)) 27 [.int .i64 q0, .bool q1, .int .i64 q2, .string q3, .string q4, .string q5, .slice q6 q7 q8, .slice q9 qa qb]).ext ((Ext.refl _).alloc (.cells #[.int .i64 r0, .bool r1, .int .i64 r2, .string r3, .string r4, .string r5, .slice r6 r7 r8, .slice r9 ra rb] 27))).ext hx1)
  have B3 := Lib.hid ((BoxAt.new ((w.alloc (.cells #[.int .i64 p0, .bool p1, .int .i64 p2, .string p3, .string p4, .string p5, .slice p6 p7 p8, .slice p9 pa pb] 27)).alloc (.cells #[.int .i64 q0, .bool q1, .int .i64 q2, .string q3, .string q4, .string q5, .slice q6 q7 q8, .slice q9 qa qb] 27)) 27 [.int .i64 r0, .bool r1, .int .i64 r2, .string r3, .string r4, .string r5, .slice r6 r7 r8, .slice r9 ra rb]).ext hx1)
  simp only [World.size_alloc] at B2 B3
  have HX1 := Lib.hid (((((Ext.refl w).alloc _).alloc _).alloc _).trans hx1)
  have VA := Lib.hid (HA.out.ext HX1.out)
  have VB := Lib.hid (HB.out.ext HX1.out)
  have VC := Lib.hid (HC.out.ext HX1.out)
  have H1 := Lib.hid (Ext.refl w1)
  clear hx1 HA HB HC
  go_wp2_with (refine wpList_load_cells rfl 27 (.tmp 3) rfl (w.heap.size) 0 rfl Try.agg27 Try.size27 rfl (B1.out.ext H1.out).2 ?_)
  refine (few_ok03 _ a 0 _ _ [_, _, _, _, _, _, _, _] (Nat.le_refl _) (by omega) (by omega) (InW.lt _) (VA.out.ext H1.out)).mono ?_
  rintro e w2 ⟨rfl, hx⟩
  have H2 := Lib.hid (H1.out.trans hx)
  clear hx H1
  go_wp2_with (refine wpList_load_cells rfl 27 (.tmp 4) rfl (w.heap.size + 1) 0 rfl Try.agg27 Try.size27 rfl (B2.out.ext H2.out).2 ?_)
  refine (few_ok03 _ b 0 _ _ [_, _, _, _, _, _, _, _] (Nat.le_refl _) (by omega) (by omega) (InW.lt _) (VB.out.ext H2.out)).mono ?_
  rintro e w3 ⟨rfl, hx⟩
  have H3 := Lib.hid (H2.out.trans hx)
  clear hx H2
  go_wp2_with (refine wpList_load_cells rfl 27 (.tmp 5) rfl (w.heap.size + 1 + 1) 0 rfl Try.agg27 Try.size27 rfl (B3.out.ext H3.out).2 ?_)
  refine (few_ok03 _ c 0 _ _ [_, _, _, _, _, _, _, _] (Nat.le_refl _) (by omega) (by omega) (InW.lt _) (VC.out.ext H3.out)).mono ?_
  rintro e w4 ⟨rfl, hx⟩
  have H4 := Lib.hid (H3.out.trans hx)
  clear hx H3
  have Da := Lib.hid (show a.few 0 = true → a.dep ≤ 62 from Val.dep_le)
  generalize a.few 0 = fa at *
  cases fa
  · go_wp2_with fail
    go_ret
    exact ⟨rfl, HX1.out.trans H4.out⟩
  have Db := Lib.hid (show b.few 0 = true → b.dep ≤ 62 from Val.dep_le)
  generalize b.few 0 = fb at *
  cases fb
  · go_wp2_with fail
    go_ret
    exact ⟨rfl, HX1.out.trans H4.out⟩
  have Dc := Lib.hid (show c.few 0 = true → c.dep ≤ 62 from Val.dep_le)
  generalize c.few 0 = fc at *
  cases fc
  · go_wp2_with fail
    go_ret
    exact ⟨rfl, HX1.out.trans H4.out⟩
  replace Da : Hid (a.dep ≤ 1000000) := Lib.hid (by have := Da.out rfl; omega)
  replace Db : Hid (b.dep ≤ 1000000) := Lib.hid (by have := Db.out rfl; omega)
  replace Dc : Hid (c.dep ≤ 1000000) := Lib.hid (by have := Dc.out rfl; omega)
  obtain ⟨d0, d1, d2, d3, d4, d5, d6, d7⟩ := (B1.out.ext H4.out).cells
  go_wp2_with fail
  clear d0 d1 d2 d3 d4 d5 d6 d7
  refine (size_ok03 _ a _ _ [_, _, _, _, _, _, _, _] (Nat.le_refl _) (InW.lt _) (VA.out.ext H4.out)).mono ?_
  rintro e w5 ⟨sza, _, rfl, hx⟩
  have H5 := Lib.hid (H4.out.trans hx)
  clear hx H4
  by_cases hsz : 300 < sza
  · have t0 : decide (300 < sza) = true := by simpa using hsz
    clear hsz
    go_wp2_with fail
    go_ret
    exact ⟨rfl, HX1.out.trans H5.out⟩
  have ta : decide (300 < sza) = false := by simpa using hsz
  clear hsz
  obtain ⟨d0, d1, d2, d3, d4, d5, d6, d7⟩ := (B2.out.ext H5.out).cells
  go_wp2_with fail
  clear d0 d1 d2 d3 d4 d5 d6 d7
  refine (size_ok03 _ b _ _ [_, _, _, _, _, _, _, _] (Nat.le_refl _) (InW.lt _) (VB.out.ext H5.out)).mono ?_
  rintro e w6 ⟨szb, _, rfl, hx⟩
  have H6 := Lib.hid (H5.out.trans hx)
  clear hx H5
  by_cases hsz : 300 < szb
  · have t0 : decide (300 < szb) = true := by simpa using hsz
    clear hsz
    go_wp2_with fail
    go_ret
    exact ⟨rfl, HX1.out.trans H6.out⟩
  have tb : decide (300 < szb) = false := by simpa using hsz
  clear hsz
  obtain ⟨d0, d1, d2, d3, d4, d5, d6, d7⟩ := (B3.out.ext H6.out).cells
  go_wp2_with fail
  clear d0 d1 d2 d3 d4 d5 d6 d7
  refine (size_ok03 _ c _ _ [_, _, _, _, _, _, _, _] (Nat.le_refl _) (InW.lt _) (VC.out.ext H6.out)).mono ?_
  rintro e w7 ⟨szc, _, rfl, hx⟩
  have H7 := Lib.hid (H6.out.trans hx)
  clear hx H6
  by_cases hsz : 300 < szc
  · have t0 : decide (300 < szc) = true := by simpa using hsz
    clear hsz
    go_wp2_with fail
    go_ret
    exact ⟨rfl, HX1.out.trans H7.out⟩
  have tc : decide (300 < szc) = false := by simpa using hsz
  clear hsz
  go_wp2_with (refine wpList_load_cells rfl 27 (.tmp 3) rfl (w.heap.size) 0 rfl Try.agg27 Try.size27 rfl (B1.out.ext H7.out).2 ?_)
  refine (canon_okP a _ _ [_, _, _, _, _, _, _, _] Da.out (InW.lt _) (VA.out.ext H7.out)).mono ?_
  rintro e w8 ⟨cs, rfl, hat, hx⟩
  obtain ⟨k0, k1, k2, k3, k4, k5, k6, k7, k8, k9, ka, kb, rfl⟩ := hat.shape
  have Vk := Lib.hid ((InW.of hat fun b hb => hb.2).ext ((Ext.refl w8).alloc (.cells #[.int .i64 k0, .bool k1, .int .i64 k2, .string k3, .string k4, .string k5, .slice k6 k7 k8, .slice k9 ka kb] 27)))
  have Xk := Lib.hid (BoxAt.new w8 27 [.int .i64 k0, .bool k1, .int .i64 k2, .string k3, .string k4, .string k5, .slice k6 k7 k8, .slice k9 ka kb])
  have H8 := Lib.hid ((H7.out.trans hx).alloc (.cells #[.int .i64 k0, .bool k1, .int .i64 k2, .string k3, .string k4, .string k5, .slice k6 k7 k8, .slice k9 ka kb] 27))
  clear hx H7 hat
  clear ta tb tc
  have Ek := Lib.hid (show w8.heap.size = w8.heap.size from rfl)
  go_wp2_with (refine wpList_load_cells rfl 27 (.tmp 4) rfl (w.heap.size + 1) 0 rfl Try.agg27 Try.size27 rfl (B2.out.ext H8.out).2 ?_)
  refine (canon_okP b _ _ [_, _, _, _, _, _, _, _] Db.out (InW.lt _) (VB.out.ext H8.out)).mono ?_
  rintro e w9 ⟨cs, rfl, hat, hx⟩
  obtain ⟨l0, l1, l2, l3, l4, l5, l6, l7, l8, l9, la, lb, rfl⟩ := hat.shape
  have Vl := Lib.hid ((InW.of hat fun b hb => hb.2).ext ((Ext.refl w9).alloc (.cells #[.int .i64 l0, .bool l1, .int .i64 l2, .string l3, .string l4, .string l5, .slice l6 l7 l8, .slice l9 la lb] 27)))
  have Xl := Lib.hid (BoxAt.new w9 27 [.int .i64 l0, .bool l1, .int .i64 l2, .string l3, .string l4, .string l5, .slice l6 l7 l8, .slice l9 la lb])
  replace Vk := Lib.hid (Vk.out.ext (hx.alloc (.cells #[.int .i64 l0, .bool l1, .int .i64 l2, .string l3, .string l4, .string l5, .slice l6 l7 l8, .slice l9 la lb] 27)))
  replace Xk := Lib.hid (Xk.out.ext (hx.alloc (.cells #[.int .i64 l0, .bool l1, .int .i64 l2, .string l3, .string l4, .string l5, .slice l6 l7 l8, .slice l9 la lb] 27)))
  have H9 := Lib.hid ((H8.out.trans hx).alloc (.cells #[.int .i64 l0, .bool l1, .int .i64 l2, .string l3, .string l4, .string l5, .slice l6 l7 l8, .slice l9 la lb] 27))
  clear hx H8 hat
  have El := Lib.hid (show w9.heap.size = w9.heap.size from rfl)
  go_wp2_with (refine wpList_load_cells rfl 27 (.tmp 5) rfl (w.heap.size + 1 + 1) 0 rfl Try.agg27 Try.size27 rfl (B3.out.ext H9.out).2 ?_)
  refine (canon_okP c _ _ [_, _, _, _, _, _, _, _] Dc.out (InW.lt _) (VC.out.ext H9.out)).mono ?_
  rintro e w10 ⟨cs, rfl, hat, hx⟩
  obtain ⟨m0, m1, m2, m3, m4, m5, m6, m7, m8, m9, ma, mb, rfl⟩ := hat.shape
  have Vm := Lib.hid ((InW.of hat fun b hb => hb.2).ext ((Ext.refl w10).alloc (.cells #[.int .i64 m0, .bool m1, .int .i64 m2, .string m3, .string m4, .string m5, .slice m6 m7 m8, .slice m9 ma mb] 27)))
  have Xm := Lib.hid (BoxAt.new w10 27 [.int .i64 m0, .bool m1, .int .i64 m2, .string m3, .string m4, .string m5, .slice m6 m7 m8, .slice m9 ma mb])
  replace Vk := Lib.hid (Vk.out.ext (hx.alloc (.cells #[.int .i64 m0, .bool m1, .int .i64 m2, .string m3, .string m4, .string m5, .slice m6 m7 m8, .slice m9 ma mb] 27)))
  replace Xk := Lib.hid (Xk.out.ext (hx.alloc (.cells #[.int .i64 m0, .bool m1, .int .i64 m2, .string m3, .string m4, .string m5, .slice m6 m7 m8, .slice m9 ma mb] 27)))
  replace Vl := Lib.hid (Vl.out.ext (hx.alloc (.cells #[.int .i64 m0, .bool m1, .int .i64 m2, .string m3, .string m4, .string m5, .slice m6 m7 m8, .slice m9 ma mb] 27)))
  replace Xl := Lib.hid (Xl.out.ext (hx.alloc (.cells #[.int .i64 m0, .bool m1, .int .i64 m2, .string m3, .string m4, .string m5, .slice m6 m7 m8, .slice m9 ma mb] 27)))
  have H10 := Lib.hid ((H9.out.trans hx).alloc (.cells #[.int .i64 m0, .bool m1, .int .i64 m2, .string m3, .string m4, .string m5, .slice m6 m7 m8, .slice m9 ma mb] 27))
  clear hx H9 hat
  have Em := Lib.hid (show w10.heap.size = w10.heap.size from rfl)
  by_cases ha0 : a.canon.2 = 0
  rotate_left 1
  · have t0 : (a.canon.2 != 0) = true := by simpa using ha0
    clear ha0
    go_wp2_with fail
    go_ret
    exact ⟨rfl, HX1.out.trans H10.out⟩
  have ta : (a.canon.2 != 0) = false := by simpa using ha0
  have Za := Lib.hid ha0
  clear ha0
  by_cases hb0 : b.canon.2 = 0
  rotate_left 1
  · have t0 : (b.canon.2 != 0) = true := by simpa using hb0
    clear hb0
    go_wp2_with fail
    go_ret
    exact ⟨rfl, HX1.out.trans H10.out⟩
  have tb : (b.canon.2 != 0) = false := by simpa using hb0
  have Zb := Lib.hid hb0
  clear hb0
  by_cases hc0 : c.canon.2 = 0
  rotate_left 1
  · have t0 : (c.canon.2 != 0) = true := by simpa using hc0
    clear hc0
    go_wp2_with fail
    go_ret
    exact ⟨rfl, HX1.out.trans H10.out⟩
  have tc : (c.canon.2 != 0) = false := by simpa using hc0
  have Zc := Lib.hid hc0
  clear hc0
  have Ik := Lib.hid (canon_is Za.out)
  have Il := Lib.hid (canon_is Zb.out)
  have Ak := Lib.hid (canon_again Za.out)
  have LS := Lib.hid (laws_sets Za.out Zb.out Zc.out)
  have dk := Lib.hid (show a.canon.1.dep ≤ 1000000 by have := canon_dep Za.out; omega)
  have ds := Lib.hid (show (Val.setV [a, b, c, a]).dep ≤ 1000000 ∧ (Val.setV [c, a, b]).dep ≤ 1000000 by
    have h1 := canon_dep Za.out; have h2 := canon_dep Zb.out; have h3 := canon_dep Zc.out
    rw [Val.setV_dep, Val.setV_dep]; simp only [Val.deps]; omega)
  clear Za Zb Zc
  obtain ⟨⟨vS, es⟩, hrs⟩ : ∃ r, r = (Val.setV [a, b, c, a]).canon := ⟨_, rfl⟩
  obtain ⟨⟨vT, et⟩, hrt⟩ : ∃ r, r = (Val.setV [c, a, b]).canon := ⟨_, rfl⟩
  rw [← hrs, ← hrt] at LS
  have Hrs := Lib.hid hrs
  have Hrt := Lib.hid hrt
  clear hrs hrt
  generalize a.canon.1 = vk at *
  generalize b.canon.1 = vl at *
  generalize c.canon.1 = vm at *
  generalize a.canon.2 = ea at *
  generalize b.canon.2 = eb at *
  generalize c.canon.2 = ec at *
  generalize hWW : w10.alloc (.cells #[.int .i64 m0, .bool m1, .int .i64 m2, .string m3, .string m4, .string m5, .slice m6 m7 m8, .slice m9 ma mb] 27) = W at *
  have hkw : w8.heap.size = w8.heap.size := rfl
  clear hkw
  obtain ⟨ol, hol⟩ : ∃ o, o = vl.ord vk := ⟨_, rfl⟩
  obtain ⟨o1, ho1⟩ : ∃ o, o = vk.ord vl := ⟨_, rfl⟩
  obtain ⟨o2, ho2⟩ : ∃ o, o = vl.ord vm := ⟨_, rfl⟩
  obtain ⟨o3, ho3⟩ : ∃ o, o = vk.ord vm := ⟨_, rfl⟩
  have hlo := laws_order vk vl vm
  rw [← ho1, ← hol, ← ho2, ← ho3] at hlo
  have hrg := (Val.goodAt vl).range vk
  rw [← hol] at hrg
  have hsm := laws_same Ik.out Il.out
  rw [← ho1] at hsm
  have KL : Hid (∀ X, Ext W X → Calls Try.prog 25 #[.agg #[.int .i64 k0, .bool k1, .int .i64 k2, .string k3, .string k4, .string k5, .slice k6 k7 k8, .slice k9 ka kb], .agg #[.int .i64 l0, .bool l1, .int .i64 l2, .string l3, .string l4, .string l5, .slice l6 l7 l8, .slice l9 la lb]] X fun e w' => e = .returned (.int .i64 o1) ∧ Ext X w') := Lib.hid fun X hX => by
    rw [ho1]; exact order_ok _ vk vl _ X [.int .i64 k0, .bool k1, .int .i64 k2, .string k3, .string k4, .string k5, .slice k6 k7 k8, .slice k9 ka kb] [.int .i64 l0, .bool l1, .int .i64 l2, .string l3, .string l4, .string l5, .slice l6 l7 l8, .slice l9 la lb] (Nat.le_refl _) (InW.lt _) (Vk.out.ext hX) (Vl.out.ext hX)
  have LK : Hid (∀ X, Ext W X → Calls Try.prog 25 #[.agg #[.int .i64 l0, .bool l1, .int .i64 l2, .string l3, .string l4, .string l5, .slice l6 l7 l8, .slice l9 la lb], .agg #[.int .i64 k0, .bool k1, .int .i64 k2, .string k3, .string k4, .string k5, .slice k6 k7 k8, .slice k9 ka kb]] X fun e w' => e = .returned (.int .i64 ol) ∧ Ext X w') := Lib.hid fun X hX => by
    rw [hol]; exact order_ok _ vl vk _ X [.int .i64 l0, .bool l1, .int .i64 l2, .string l3, .string l4, .string l5, .slice l6 l7 l8, .slice l9 la lb] [.int .i64 k0, .bool k1, .int .i64 k2, .string k3, .string k4, .string k5, .slice k6 k7 k8, .slice k9 ka kb] (Nat.le_refl _) (InW.lt _) (Vl.out.ext hX) (Vk.out.ext hX)
  have LM : Hid (∀ X, Ext W X → Calls Try.prog 25 #[.agg #[.int .i64 l0, .bool l1, .int .i64 l2, .string l3, .string l4, .string l5, .slice l6 l7 l8, .slice l9 la lb], .agg #[.int .i64 m0, .bool m1, .int .i64 m2, .string m3, .string m4, .string m5, .slice m6 m7 m8, .slice m9 ma mb]] X fun e w' => e = .returned (.int .i64 o2) ∧ Ext X w') := Lib.hid fun X hX => by
    rw [ho2]; exact order_ok _ vl vm _ X [.int .i64 l0, .bool l1, .int .i64 l2, .string l3, .string l4, .string l5, .slice l6 l7 l8, .slice l9 la lb] [.int .i64 m0, .bool m1, .int .i64 m2, .string m3, .string m4, .string m5, .slice m6 m7 m8, .slice m9 ma mb] (Nat.le_refl _) (InW.lt _) (Vl.out.ext hX) (Vm.out.ext hX)
  have KM : Hid (∀ X, Ext W X → Calls Try.prog 25 #[.agg #[.int .i64 k0, .bool k1, .int .i64 k2, .string k3, .string k4, .string k5, .slice k6 k7 k8, .slice k9 ka kb], .agg #[.int .i64 m0, .bool m1, .int .i64 m2, .string m3, .string m4, .string m5, .slice m6 m7 m8, .slice m9 ma mb]] X fun e w' => e = .returned (.int .i64 o3) ∧ Ext X w') := Lib.hid fun X hX => by
    rw [ho3]; exact order_ok _ vk vm _ X [.int .i64 k0, .bool k1, .int .i64 k2, .string k3, .string k4, .string k5, .slice k6 k7 k8, .slice k9 ka kb] [.int .i64 m0, .bool m1, .int .i64 m2, .string m3, .string m4, .string m5, .slice m6 m7 m8, .slice m9 ma mb] (Nat.le_refl _) (InW.lt _) (Vk.out.ext hX) (Vm.out.ext hX)
  have WH : Hid (∀ X, Ext W X → Calls Try.prog 20 #[.agg #[.int .i64 k0, .bool k1, .int .i64 k2, .string k3, .string k4, .string k5, .slice k6 k7 k8, .slice k9 ka kb], .agg #[.int .i64 l0, .bool l1, .int .i64 l2, .string l3, .string l4, .string l5, .slice l6 l7 l8, .slice l9 la lb]] X fun e w' => e = .returned (.bool (o1 == 0)) ∧ Ext X w') := Lib.hid fun X hX => by
    rw [hsm]; exact whole_ok _ vk vl _ X [.int .i64 k0, .bool k1, .int .i64 k2, .string k3, .string k4, .string k5, .slice k6 k7 k8, .slice k9 ka kb] [.int .i64 l0, .bool l1, .int .i64 l2, .string l3, .string l4, .string l5, .slice l6 l7 l8, .slice l9 la lb] (Nat.le_refl _) (InW.lt _) (Vk.out.ext hX) (Vl.out.ext hX)
  have n1 : IntKind.i64.wrap (-ol) = o1 := by rw [hlo.1]; exact IntWalk.i64_in _ (by omega)
  have h3 : (decide (o1 ≤ 0) = false) ∨ (decide (o1 ≤ 0) = true ∧ decide (o2 ≤ 0) = false) ∨ (decide (o1 ≤ 0) = true ∧ decide (o2 ≤ 0) = true ∧ decide (0 < o3) = false) := by
    have := hlo.2
    by_cases g1 : o1 ≤ 0
    · by_cases g2 : o2 ≤ 0
      · exact .inr (.inr ⟨by simpa using g1, by simpa using g2, by have := this g1 g2; simp; omega⟩)
      · exact .inr (.inl ⟨by simpa using g1, by simpa using g2⟩)
    · exact .inl (by simpa using g1)
  clear hol ho1 ho2 ho3 hlo hrg hsm

  have HCk : Hid (∀ X, Ext W X → Calls Try.prog 18 #[.agg #[.int .i64 k0, .bool k1, .int .i64 k2, .string k3, .string k4, .string k5, .slice k6 k7 k8, .slice k9 ka kb]] X (ValErr vk 0 X)) := Lib.hid fun X hX => by
    have := canon_okP vk _ X [.int .i64 k0, .bool k1, .int .i64 k2, .string k3, .string k4, .string k5, .slice k6 k7 k8, .slice k9 ka kb] dk.out (InW.lt _) (Vk.out.ext hX)
    rwa [Ak.out] at this
  go_wp2_with fail
  rcases h3 with t1 | ⟨t1, t2⟩ | ⟨t1, t2, t3⟩
  all_goals
    obtain ⟨kf0, kf1, kf2, kf3, kf4, kf5, kf6, kf7⟩ := BoxAt.cells Xk.out
    have kg0 := cell_regrown kf0
    have kg1 := cell_regrown kf1
    have kg2 := cell_regrown kf2
    have kg3 := cell_regrown kf3
    have kg4 := cell_regrown kf4
    have kg5 := cell_regrown kf5
    have kg6 := cell_regrown kf6
    have kg7 := cell_regrown kf7
    clear kf0 kf1 kf2 kf3 kf4 kf5 kf6 kf7
    obtain ⟨lf0, lf1, lf2, lf3, lf4, lf5, lf6, lf7⟩ := BoxAt.cells Xl.out
    have lg0 := cell_regrown lf0
    have lg1 := cell_regrown lf1
    have lg2 := cell_regrown lf2
    have lg3 := cell_regrown lf3
    have lg4 := cell_regrown lf4
    have lg5 := cell_regrown lf5
    have lg6 := cell_regrown lf6
    have lg7 := cell_regrown lf7
    clear lf0 lf1 lf2 lf3 lf4 lf5 lf6 lf7
    obtain ⟨mf0, mf1, mf2, mf3, mf4, mf5, mf6, mf7⟩ := BoxAt.cells Xm.out
    have mg0 := cell_regrown mf0
    have mg1 := cell_regrown mf1
    have mg2 := cell_regrown mf2
    have mg3 := cell_regrown mf3
    have mg4 := cell_regrown mf4
    have mg5 := cell_regrown mf5
    have mg6 := cell_regrown mf6
    have mg7 := cell_regrown mf7
    clear mf0 mf1 mf2 mf3 mf4 mf5 mf6 mf7
    refine region_later (by kernel_rfl) (by kernel_rfl) ?_
    iterate 2 (go_big_quiet_step (fail))
    go_big_quiet_step ((go_at_call 25; exact later_call KL.out _ _))
    iterate 2 (go_big_quiet_step (fail))
    go_big_quiet_step ((go_at_call 25; exact later_call LK.out _ _))
    iterate 5 (go_big_quiet_step (fail))
    go_big_quiet_step ((go_at_call 25; exact later_call KL.out _ _))
    iterate 4 (go_big_quiet_step (fail))
    go_big_quiet_step ((go_at_call 25; exact later_call LM.out _ _))
    iterate 5 (go_big_quiet_step (fail))
    go_big_quiet_step ((go_at_call 25; exact later_call KM.out _ _))
    iterate 3 (go_big_quiet_step (fail))
    refine wpQuiet_nil ?_
    intro x1 hx1
    have G1 := Lib.hid hx1
    clear hx1 kg0 kg1 kg2 kg3 kg4 kg5 kg6 kg7 lg0 lg1 lg2 lg3 lg4 lg5 lg6 lg7 mg0 mg1 mg2 mg3 mg4 mg5 mg6 mg7 n1 t1
    try clear t2
    try clear t3
    go_wp2_with fail
    obtain ⟨kf0, kf1, kf2, kf3, kf4, kf5, kf6, kf7⟩ := BoxAt.cells (Xk.out.ext G1.out)
    have kg0 := cell_regrown kf0
    have kg1 := cell_regrown kf1
    have kg2 := cell_regrown kf2
    have kg3 := cell_regrown kf3
    have kg4 := cell_regrown kf4
    have kg5 := cell_regrown kf5
    have kg6 := cell_regrown kf6
    have kg7 := cell_regrown kf7
    clear kf0 kf1 kf2 kf3 kf4 kf5 kf6 kf7
    obtain ⟨lf0, lf1, lf2, lf3, lf4, lf5, lf6, lf7⟩ := BoxAt.cells (Xl.out.ext G1.out)
    have lg0 := cell_regrown lf0
    have lg1 := cell_regrown lf1
    have lg2 := cell_regrown lf2
    have lg3 := cell_regrown lf3
    have lg4 := cell_regrown lf4
    have lg5 := cell_regrown lf5
    have lg6 := cell_regrown lf6
    have lg7 := cell_regrown lf7
    clear lf0 lf1 lf2 lf3 lf4 lf5 lf6 lf7
    refine region_later (by kernel_rfl) (by kernel_rfl) ?_
    iterate 2 (go_big_quiet_step (fail))
    go_big_quiet_step ((go_at_call 25; exact later_call (fun X hX => KL.out X (G1.out.trans hX)) _ _))
    iterate 3 (go_big_quiet_step (fail))
    go_big_quiet_step ((go_at_call 20; exact later_call (fun X hX => WH.out X (G1.out.trans hX)) _ _))
    iterate 1 (go_big_quiet_step (fail))
    refine wpQuiet_nil ?_
    intro x2 hx2
    have G2 := Lib.hid (G1.out.trans hx2)
    clear hx2 kg0 kg1 kg2 kg3 kg4 kg5 kg6 kg7 lg0 lg1 lg2 lg3 lg4 lg5 lg6 lg7 G1
    go_wp2_with (refine wpList_load_cells rfl 27 (.tmp 11) rfl (w8.heap.size) 0 rfl Try.agg27 Try.size27 rfl (Xk.out.ext G2.out).2 ?_)
    refine (HCk.out _ G2.out).mono ?_
    rintro e x3 ⟨cs, rfl, hat, hx⟩
    obtain ⟨n0, n1, n2, n3, n4, n5, n6, n7, n8, n9, na, nb, rfl⟩ := hat.shape
    have Vn := Lib.hid ((InW.of hat fun b hb => hb.2).ext ((Ext.refl x3).alloc (.cells #[.int .i64 n0, .bool n1, .int .i64 n2, .string n3, .string n4, .string n5, .slice n6 n7 n8, .slice n9 na nb] 27)))
    have Xn := Lib.hid (BoxAt.new x3 27 [.int .i64 n0, .bool n1, .int .i64 n2, .string n3, .string n4, .string n5, .slice n6 n7 n8, .slice n9 na nb])
    have G3 := Lib.hid ((G2.out.trans hx).alloc (.cells #[.int .i64 n0, .bool n1, .int .i64 n2, .string n3, .string n4, .string n5, .slice n6 n7 n8, .slice n9 na nb] 27))
    clear hx hat G2
    generalize hY : x3.alloc (.cells #[.int .i64 n0, .bool n1, .int .i64 n2, .string n3, .string n4, .string n5, .slice n6 n7 n8, .slice n9 na nb] 27) = Y at *
    go_wp2_with (first | refine wpList_load_cells rfl 27 (.tmp 3) rfl (w.heap.size) 0 rfl Try.agg27 Try.size27 rfl (B1.out.ext (H10.out.trans G3.out)).2 ?_ | refine wpList_load_cells rfl 27 (.tmp 4) rfl (w.heap.size + 1) 0 rfl Try.agg27 Try.size27 rfl (B2.out.ext (H10.out.trans G3.out)).2 ?_ | refine wpList_load_cells rfl 27 (.tmp 5) rfl (w.heap.size + 1 + 1) 0 rfl Try.agg27 Try.size27 rfl (B3.out.ext (H10.out.trans G3.out)).2 ?_)
    have hset := canon_okP (Val.setV [a, b, c, a]) _ (Y.alloc (.cells #[.int .i64 p0, .bool p1, .int .i64 p2, .string p3, .string p4, .string p5, .slice p6 p7 p8, .slice p9 pa pb, .int .i64 q0, .bool q1, .int .i64 q2, .string q3, .string q4, .string q5, .slice q6 q7 q8, .slice q9 qa qb, .int .i64 r0, .bool r1, .int .i64 r2, .string r3, .string r4, .string r5, .slice r6 r7 r8, .slice r9 ra rb, .int .i64 p0, .bool p1, .int .i64 p2, .string p3, .string p4, .string p5, .slice p6 p7 p8, .slice p9 pa pb] 27)) [.int .i64 5, .bool false, .int .i64 0, .string ByteArray.empty, .string ByteArray.empty, .string ByteArray.empty, .slice (some ⟨Y.heap.size, 0, none⟩) 4 4, .slice none 0 0] ds.out.1 (InW.lt _)
      (Val.set_at (vals_at_flat (xs := [.int .i64 p0, .bool p1, .int .i64 p2, .string p3, .string p4, .string p5, .slice p6 p7 p8, .slice p9 pa pb, .int .i64 q0, .bool q1, .int .i64 q2, .string q3, .string q4, .string q5, .slice q6 q7 q8, .slice q9 qa qb, .int .i64 r0, .bool r1, .int .i64 r2, .string r3, .string r4, .string r5, .slice r6 r7 r8, .slice r9 ra rb, .int .i64 p0, .bool p1, .int .i64 p2, .string p3, .string p4, .string p5, .slice p6 p7 p8, .slice p9 pa pb]) (by simp) (cellsAt_new _ _ rfl) ⟨[.int .i64 p0, .bool p1, .int .i64 p2, .string p3, .string p4, .string p5, .slice p6 p7 p8, .slice p9 pa pb], _, rfl, VA.out.ext ((H10.out.trans G3.out).alloc _), ⟨[.int .i64 q0, .bool q1, .int .i64 q2, .string q3, .string q4, .string q5, .slice q6 q7 q8, .slice q9 qa qb], _, rfl, VB.out.ext ((H10.out.trans G3.out).alloc _), ⟨[.int .i64 r0, .bool r1, .int .i64 r2, .string r3, .string r4, .string r5, .slice r6 r7 r8, .slice r9 ra rb], _, rfl, VC.out.ext ((H10.out.trans G3.out).alloc _), ⟨[.int .i64 p0, .bool p1, .int .i64 p2, .string p3, .string p4, .string p5, .slice p6 p7 p8, .slice p9 pa pb], [], rfl, VA.out.ext ((H10.out.trans G3.out).alloc _), rfl⟩⟩⟩⟩ (by simp [LIM]) (by simp) (by rw [maxLen_eq]; omega)))
    rw [← Hrs.out] at hset
    refine hset.mono ?_
    clear hset
    rintro e x4 ⟨cs, rfl, hat, hx⟩
    obtain ⟨s0, s1, s2, s3, s4, s5, s6, s7, s8, s9, sa, sb, rfl⟩ := hat.shape
    have Vs := Lib.hid ((InW.of hat fun b hb => hb.2).ext ((Ext.refl x4).alloc (.cells #[.int .i64 s0, .bool s1, .int .i64 s2, .string s3, .string s4, .string s5, .slice s6 s7 s8, .slice s9 sa sb] 27)))
    have Xs := Lib.hid (BoxAt.new x4 27 [.int .i64 s0, .bool s1, .int .i64 s2, .string s3, .string s4, .string s5, .slice s6 s7 s8, .slice s9 sa sb])
    have hxx := ((Ext.refl Y).alloc _).trans hx
    have G4 := Lib.hid ((G3.out.trans hxx).alloc (.cells #[.int .i64 s0, .bool s1, .int .i64 s2, .string s3, .string s4, .string s5, .slice s6 s7 s8, .slice s9 sa sb] 27))
    replace Vn := Lib.hid (Vn.out.ext (hxx.alloc (.cells #[.int .i64 s0, .bool s1, .int .i64 s2, .string s3, .string s4, .string s5, .slice s6 s7 s8, .slice s9 sa sb] 27)))
    replace Xn := Lib.hid (Xn.out.ext (hxx.alloc (.cells #[.int .i64 s0, .bool s1, .int .i64 s2, .string s3, .string s4, .string s5, .slice s6 s7 s8, .slice s9 sa sb] 27)))
    clear hx hat hxx G3
    generalize hZ : x4.alloc (.cells #[.int .i64 s0, .bool s1, .int .i64 s2, .string s3, .string s4, .string s5, .slice s6 s7 s8, .slice s9 sa sb] 27) = Z at *
    go_wp2_with (first | refine wpList_load_cells rfl 27 (.tmp 3) rfl (w.heap.size) 0 rfl Try.agg27 Try.size27 rfl (B1.out.ext (H10.out.trans G4.out)).2 ?_ | refine wpList_load_cells rfl 27 (.tmp 4) rfl (w.heap.size + 1) 0 rfl Try.agg27 Try.size27 rfl (B2.out.ext (H10.out.trans G4.out)).2 ?_ | refine wpList_load_cells rfl 27 (.tmp 5) rfl (w.heap.size + 1 + 1) 0 rfl Try.agg27 Try.size27 rfl (B3.out.ext (H10.out.trans G4.out)).2 ?_)
    have hset := canon_okP (Val.setV [c, a, b]) _ (Z.alloc (.cells #[.int .i64 r0, .bool r1, .int .i64 r2, .string r3, .string r4, .string r5, .slice r6 r7 r8, .slice r9 ra rb, .int .i64 p0, .bool p1, .int .i64 p2, .string p3, .string p4, .string p5, .slice p6 p7 p8, .slice p9 pa pb, .int .i64 q0, .bool q1, .int .i64 q2, .string q3, .string q4, .string q5, .slice q6 q7 q8, .slice q9 qa qb] 27)) [.int .i64 5, .bool false, .int .i64 0, .string ByteArray.empty, .string ByteArray.empty, .string ByteArray.empty, .slice (some ⟨Z.heap.size, 0, none⟩) 3 3, .slice none 0 0] ds.out.2 (InW.lt _)
      (Val.set_at (vals_at_flat (xs := [.int .i64 r0, .bool r1, .int .i64 r2, .string r3, .string r4, .string r5, .slice r6 r7 r8, .slice r9 ra rb, .int .i64 p0, .bool p1, .int .i64 p2, .string p3, .string p4, .string p5, .slice p6 p7 p8, .slice p9 pa pb, .int .i64 q0, .bool q1, .int .i64 q2, .string q3, .string q4, .string q5, .slice q6 q7 q8, .slice q9 qa qb]) (by simp) (cellsAt_new _ _ rfl) ⟨[.int .i64 r0, .bool r1, .int .i64 r2, .string r3, .string r4, .string r5, .slice r6 r7 r8, .slice r9 ra rb], _, rfl, VC.out.ext ((H10.out.trans G4.out).alloc _), ⟨[.int .i64 p0, .bool p1, .int .i64 p2, .string p3, .string p4, .string p5, .slice p6 p7 p8, .slice p9 pa pb], _, rfl, VA.out.ext ((H10.out.trans G4.out).alloc _), ⟨[.int .i64 q0, .bool q1, .int .i64 q2, .string q3, .string q4, .string q5, .slice q6 q7 q8, .slice q9 qa qb], [], rfl, VB.out.ext ((H10.out.trans G4.out).alloc _), rfl⟩⟩⟩ (by simp [LIM]) (by simp) (by rw [maxLen_eq]; omega)))
    rw [← Hrt.out] at hset
    refine hset.mono ?_
    clear hset
    rintro e x5 ⟨cs, rfl, hat, hx⟩
    obtain ⟨t0, t1, t2, t3, t4, t5, t6, t7, t8, t9, ta, tb, rfl⟩ := hat.shape
    have Vt := Lib.hid ((InW.of hat fun b hb => hb.2).ext ((Ext.refl x5).alloc (.cells #[.int .i64 t0, .bool t1, .int .i64 t2, .string t3, .string t4, .string t5, .slice t6 t7 t8, .slice t9 ta tb] 27)))
    have Xt := Lib.hid (BoxAt.new x5 27 [.int .i64 t0, .bool t1, .int .i64 t2, .string t3, .string t4, .string t5, .slice t6 t7 t8, .slice t9 ta tb])
    have hxx := ((Ext.refl Z).alloc _).trans hx
    have G5 := Lib.hid ((G4.out.trans hxx).alloc (.cells #[.int .i64 t0, .bool t1, .int .i64 t2, .string t3, .string t4, .string t5, .slice t6 t7 t8, .slice t9 ta tb] 27))
    replace Vn := Lib.hid (Vn.out.ext (hxx.alloc (.cells #[.int .i64 t0, .bool t1, .int .i64 t2, .string t3, .string t4, .string t5, .slice t6 t7 t8, .slice t9 ta tb] 27)))
    replace Xn := Lib.hid (Xn.out.ext (hxx.alloc (.cells #[.int .i64 t0, .bool t1, .int .i64 t2, .string t3, .string t4, .string t5, .slice t6 t7 t8, .slice t9 ta tb] 27)))
    replace Vs := Lib.hid (Vs.out.ext (hxx.alloc (.cells #[.int .i64 t0, .bool t1, .int .i64 t2, .string t3, .string t4, .string t5, .slice t6 t7 t8, .slice t9 ta tb] 27)))
    replace Xs := Lib.hid (Xs.out.ext (hxx.alloc (.cells #[.int .i64 t0, .bool t1, .int .i64 t2, .string t3, .string t4, .string t5, .slice t6 t7 t8, .slice t9 ta tb] 27)))
    clear hx hat hxx G4
    generalize hZ5 : x5.alloc (.cells #[.int .i64 t0, .bool t1, .int .i64 t2, .string t3, .string t4, .string t5, .slice t6 t7 t8, .slice t9 ta tb] 27) = Z5 at *
    have hls := LS.out
    rcases hls with ⟨rfl, rfl⟩ | ⟨rfl, rfl, hst, hhl⟩
    · go_wp2_with fail
      go_ret
      exact ⟨rfl, HX1.out.trans (H10.out.trans G5.out)⟩
    subst hst
    have Hhl := Lib.hid hhl
    clear hhl
    obtain ⟨nf0, nf1, nf2, nf3, nf4, nf5, nf6, nf7⟩ := Xn.out.cells
    obtain ⟨kf0, kf1, kf2, kf3, kf4, kf5, kf6, kf7⟩ := (Xk.out.ext G5.out).cells
    go_wp2_with fail
    clear nf0 nf1 nf2 nf3 nf4 nf5 nf6 nf7 kf0 kf1 kf2 kf3 kf4 kf5 kf6 kf7
    refine (whole_ok _ vk vk _ _ [_, _, _, _, _, _, _, _] [_, _, _, _, _, _, _, _] (Nat.le_refl _) (InW.lt _) Vn.out (Vk.out.ext G5.out)).mono ?_
    rintro e x6 ⟨rfl, hx⟩
    rw [eqB_same]
    have G6 := Lib.hid hx
    clear hx
    obtain ⟨nf0, nf1, nf2, nf3, nf4, nf5, nf6, nf7⟩ := (Xs.out.ext G6.out).cells
    obtain ⟨kf0, kf1, kf2, kf3, kf4, kf5, kf6, kf7⟩ := (Xt.out.ext G6.out).cells
    go_wp2_with fail
    clear nf0 nf1 nf2 nf3 nf4 nf5 nf6 nf7 kf0 kf1 kf2 kf3 kf4 kf5 kf6 kf7
    have hsm := same_ok vS vS _ x6 [.int .i64 s0, .bool s1, .int .i64 s2, .string s3, .string s4, .string s5, .slice s6 s7 s8, .slice s9 sa sb] [.int .i64 t0, .bool t1, .int .i64 t2, .string t3, .string t4, .string t5, .slice t6 t7 t8, .slice t9 ta tb] (InW.lt _) (Vs.out.ext G6.out) (Vt.out.ext G6.out)
    rw [(Val.goodAt vS).refl] at hsm
    refine hsm.mono ?_
    clear hsm
    rintro e x7 ⟨rfl, hx⟩
    have G7 := Lib.hid (G6.out.trans hx)
    clear hx
    obtain ⟨nf0, nf1, nf2, nf3, nf4, nf5, nf6, nf7⟩ := (Xs.out.ext G7.out).cells
    obtain ⟨kf0, kf1, kf2, kf3, kf4, kf5, kf6, kf7⟩ := (Xl.out.ext (G5.out.trans G7.out)).cells
    go_wp2_with fail
    clear nf0 nf1 nf2 nf3 nf4 nf5 nf6 nf7 kf0 kf1 kf2 kf3 kf4 kf5 kf6 kf7
    have hho := holds_ok vS vl _ x7 [.int .i64 s0, .bool s1, .int .i64 s2, .string s3, .string s4, .string s5, .slice s6 s7 s8, .slice s9 sa sb] [.int .i64 l0, .bool l1, .int .i64 l2, .string l3, .string l4, .string l5, .slice l6 l7 l8, .slice l9 la lb] (InW.lt _) (Vs.out.ext G7.out) (Vl.out.ext (G5.out.trans G7.out))
    rw [Hhl.out] at hho
    refine hho.mono ?_
    clear hho
    rintro e x8 ⟨rfl, hx⟩
    have G8 := Lib.hid hx
    clear hx
    go_wp2_with fail
    go_ret
    exact ⟨rfl, HX1.out.trans (H10.out.trans ((G5.out.trans G7.out).trans G8.out))⟩
end Go.Proofs.Ytpkgkabcikmopaa
