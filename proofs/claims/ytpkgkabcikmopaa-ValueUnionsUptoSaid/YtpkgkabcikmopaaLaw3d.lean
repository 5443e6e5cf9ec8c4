/-
  The walk of layer 3's law ValueUnions: it answers true. The conditions: the arguments are values that lie in old memory.
-/
import Derived.Test.YtpkgkabcikmopaaLaw3a
import Derived.Test.YtpkgkabcikmopaaRead2
import Derived.Test.YtpkgkabcikmopaaLawsP
namespace Go.Proofs.Ytpkgkabcikmopaa
open Go.RowKit

set_option maxRecDepth 100000 in
set_option maxHeartbeats 3200000 in
theorem valueUnions_walk (a b : List Val) (x : Val) (w : World) (va vb : Value) (cx : List Value) (ha : ValsW w a va) (hb : ValsW w b vb) (hx : InW w x cx) :
    Calls Try.prog 6 #[va, vb, .agg cx.toArray] w fun e w' => e = .returned (.bool true) ∧ Ext w w' := by
  obtain ⟨r0, r1, r2, r3, r4, r5, r6, r7, r8, r9, ra, rb, rfl⟩ := Val.At.shape hx
  have HA := Lib.hid ha
  have HB := Lib.hid hb
  have HXx := Lib.hid hx
  obtain ⟨Aa, capA, rfl, ⟨la, la1, la2⟩, hra⟩ := id ha
  obtain ⟨Ab, capB, rfl, ⟨lb, lb1, lb2⟩, hrb⟩ := id hb
  rw [LIM_eq] at la lb
  rw [maxLen_eq] at la2 lb2
  clear ha hb hx hra hrb
  obtain ⟨i0, hi, hz0, hz1, hz2⟩ := info_parts Try.info27
  go_enter Try.func6, Try.ntmps6
  go_wp2_with fail
  refine (awake3_ok _).mono ?_
  rintro e w1 ⟨rfl, hx1⟩
  have B5 := Lib.hid ((BoxAt.new w 27 [.int .i64 r0, .bool r1, .int .i64 r2, .string r3, .string r4, .string r5, .slice r6 r7 r8, .slice r9 ra rb]).ext hx1)
  have HX1 := Lib.hid (((Ext.refl w).alloc _).trans hx1)
  have VA := Lib.hid (HA.out.ext HX1.out)
  have VB := Lib.hid (HB.out.ext HX1.out)
  have VX := Lib.hid (HXx.out.ext HX1.out)
  clear hx1 HA HB HXx
  by_cases hla : 10 < a.length
  · have t0 : decide ((10 : Int) < a.length) = true := by simp; omega
    clear hla
    go_wp2_with fail
    go_ret
    exact ⟨rfl, HX1.out⟩
  have t0 : decide ((10 : Int) < a.length) = false := by simp; omega
  by_cases hlb : 10 < b.length
  · have t1 : decide ((10 : Int) < b.length) = true := by simp; omega
    clear hla hlb
    go_wp2_with fail
    go_ret
    exact ⟨rfl, HX1.out⟩
  have t1 : decide ((10 : Int) < b.length) = false := by simp; omega
  have ha10 : a.length ≤ 10 := by omega
  have hb10 : b.length ≤ 10 := by omega
  clear hla hlb
  obtain ⟨xa, hfa, hsa⟩ := vals_flat VA.out
  obtain ⟨xb, hfb, hsb⟩ := vals_flat VB.out
  have HFa := Lib.hid hfa
  have HFb := Lib.hid hfb
  have HSa := Lib.hid hsa
  have HSb := Lib.hid hsb
  clear hfa hfb hsa hsb
  go_wp2_with (at_builtin; refine wpList_append_any rfl (.tmp 31) (.tmp 32) 24 rfl w1.heap.size 27 i0 (.agg zeroCells.toArray) 8 120 Try.underlying24 hi hz0 hz1 hz2 rfl (by decide) (.slice none 0 0) 0 [] rfl (World.ownsRow_nil _ _ _ _) Aa a.length capA xa rfl HFa.out.length HSa.out HFa.out.one (by rw [maxLen_eq]; omega) (by omega) (Nat.le_refl _) ?_)
  intro u1 w2 own1 grow1 blk1
  try simp only [Nat.zero_add, List.nil_append] at own1
  obtain ⟨Au, cu, rfl⟩ := own_shape own1
  have hx2 : Ext w1 w2 := ext_grown (e := 27) (size := 8) (Ext.refl w1) (World.ownsRow_nil _ _ _ _) grow1
  have Own1 := Lib.hid own1
  have H2 := Lib.hid hx2
  have HSb2 : Hid (SrcAt w2 Ab b.length xb) := Lib.hid fun h0 => by
    obtain ⟨g, of, e, hc⟩ := HSb.out h0
    obtain ⟨_, _, e', _, hr⟩ := VB.out
    obtain ⟨g', of', e2, hg, _⟩ := hr h0
    injection e' with e1 _ _
    rw [e1, e2] at e
    injection e with e
    injection e with e3 e4
    subst e3; subst e4
    exact ⟨g', of', by rw [e1, e2], hc.alike (S := fun b => b < w1.heap.size) hg (Alike.of_ext hx2 fun _ h => h)⟩
  clear own1 grow1 blk1 hx2 t0 t1
  go_wp2_with (at_builtin; refine wpList_append_any rfl (.tmp 34) (.tmp 35) 24 rfl w1.heap.size 27 i0 (.agg zeroCells.toArray) 8 120 Try.underlying24 hi hz0 hz1 hz2 rfl (by decide) (.slice Au a.length cu) a.length xa rfl Own1.out Ab b.length capB xb rfl HFb.out.length HSb2.out HFb.out.one (by rw [maxLen_eq]; omega) (by omega) H2.out.size ?_)
  intro u2 w3 own2 grow2 blk2
  obtain ⟨n, hn⟩ : ∃ n : Nat, n = a.length + b.length := ⟨_, rfl⟩
  rw [← hn] at own2
  have hn20 : n ≤ 20 := by omega
  obtain ⟨Au2, cu2, rfl⟩ := own_shape own2
  have hx3 : Ext w1 w3 := ext_grown H2.out Own1.out grow2
  have hab : (a ++ b).length = n := by rw [List.length_append, hn]
  have hvl : ValsW w3 (a ++ b) (.slice Au2 n cu2) := by
    have hfl : Flat (fun g => g < w1.heap.size) w3 (a ++ b) (xa ++ xb) := Flat.alike (Alike.of_ext hx3 fun _ h => h) (Flat.append HFa.out HFb.out)
    exact own_vals (by rw [hab]; exact own2) hfl (by rw [hab, LIM_eq]; omega) (fun g hg => Nat.lt_of_lt_of_le hg hx3.size) fun g hg => (own2.lt g hg).2
  have HAB := Lib.hid hab
  have HN := Lib.hid hn
  have VL := Lib.hid hvl
  have H3 := Lib.hid hx3
  obtain ⟨hcu, hcu', _⟩ := own_src own2
  rw [maxLen_eq] at hcu'
  have HLR := Lib.hid hvl
  clear own2 grow2 blk2 hx3 hab hvl hn H2 Own1
  go_wp2_with fail
  go_loopw [9] (fun u wr => ∃ k : Nat, k ≤ n ∧ u = .int .i64 k ∧ Ext w3 wr ∧ Hid (∀ j y, j < k → (a ++ b)[j]? = some y → y.dep ≤ 62)) (fun u _ => n - (intOf u).toNat)
  case atStart => exact ⟨0, Nat.zero_le _, rfl, Ext.refl _, fun _ _ h => by omega⟩
  case round =>
    obtain ⟨k, hk, rfl, hext, Hall⟩ := hrel
    have HXr := Lib.hid hext
    clear hext
    by_cases hlt : k < n
    · obtain ⟨y, hy⟩ : ∃ y, (a ++ b)[k]? = some y := ⟨_, List.getElem?_eq_getElem (by rw [HAB.out]; exact hlt)⟩
      obtain ⟨_, _, e', _, hr⟩ := HLR.out
      injection e' with e1 ee2 ee3
      clear ee2 ee3
      obtain ⟨g, of, e2, hg, hrow⟩ := hr (by rw [HAB.out]; omega)
      rw [e2] at e1
      clear e2
      subst e1
      obtain ⟨cy, hcl, hca, hya⟩ := hrow.get hy
      have Hca := Lib.hid (hca.alike (S := fun g => g < w3.heap.size) hg (Alike.of_ext HXr.out fun _ h => h))
      have Hya := Lib.hid (InW.ext hya HXr.out)
      have Hg : Hid (g < wr.heap.size) := Lib.hid (Nat.lt_of_lt_of_le hg HXr.out.size)
      have Hy := Lib.hid hy
      obtain ⟨y0, y1, y2, y3, y4, y5, y6, y7, y8, y9, ya, yb, rfl⟩ := hya.shape
      clear hr hrow hca hya hy hcl hg
      go_wp2_with (refine wpList_load_cells rfl 27 _ rfl g (of + k * 8) rfl Try.agg27 Try.size27 rfl Hca.out ?_)
      refine (few_ok03 _ y 0 _ _ [_, _, _, _, _, _, _, _] (Nat.le_refl _) (by omega) (by omega) (InW.lt _) Hya.out).mono ?_
      rintro e w4 ⟨rfl, hx4⟩
      have H4 := Lib.hid hx4
      clear hx4
      have Hd := Lib.hid (show y.few 0 = true → y.dep ≤ 62 from Val.dep_le)
      generalize y.few 0 = fy at *
      cases fy
      · go_wp2_with fail
        go_ret
        exact ⟨rfl, HX1.out.trans (H3.out.trans (HXr.out.trans H4.out))⟩
      have HYd : Hid (y.dep ≤ 62) := Lib.hid (Hd.out rfl)
      clear Hd
      have hc4 := Hca.out.alike (S := fun g => g < wr.heap.size) Hg.out (Alike.of_ext H4.out fun _ h => h)
      have d0 : w4.cell? ⟨g, of + k * 8, none⟩ = _ := hc4 0 _ rfl
      have d1 := hc4 1 _ rfl
      have d2 := hc4 2 _ rfl
      have d3 := hc4 3 _ rfl
      have d4 := hc4 4 _ rfl
      have d5 := hc4 5 _ rfl
      have d6 := hc4 6 _ rfl
      have d7 := hc4 7 _ rfl
      clear hc4
      go_wp2_with fail
      clear d0 d1 d2 d3 d4 d5 d6 d7
      refine (size_ok03 _ y _ _ [_, _, _, _, _, _, _, _] (Nat.le_refl _) (InW.lt _) (Hya.out.ext H4.out)).mono ?_
      rintro e w5 ⟨sz, _, rfl, hx5⟩
      have H5 := Lib.hid (HXr.out.trans (H4.out.trans hx5))
      clear hx5 H4
      by_cases hsz : 50 < sz
      · have t0 : decide (50 < sz) = true := by simpa using hsz
        clear hsz
        go_wp2_with fail
        go_ret
        exact ⟨rfl, HX1.out.trans (H3.out.trans H5.out)⟩
      have t0 : decide (50 < sz) = false := by simpa using hsz
      clear hsz
      go_wp2_with fail
      go_roundw
      case rel =>
        refine ⟨k + 1, by omega, by go_num, H5.out, Lib.hid fun j z hj hz => ?_⟩
        rcases Nat.lt_or_ge j k with h | h
        · exact Hall.out j z h hz
        · have : j = k := by omega
          subst this
          rw [Hy.out] at hz; cases hz
          exact HYd.out
      case measure => simp [intOf]; omega
    · have hke : k = n := by omega
      subst hke
      have hdl : ∀ y ∈ a ++ b, y.dep ≤ 62 := fun y hy => by
        obtain ⟨j, hj, rfl⟩ := List.getElem_of_mem hy
        exact Hall.out j _ (by rw [HAB.out] at hj; exact hj) (List.getElem?_eq_getElem hj)
      have Da : Hid ((Val.setV a).dep ≤ 1000000) := Lib.hid (by rw [Val.setV_dep]; have := Val.deps_le (l := a) (n := 62) fun y hy => hdl y (by simp [hy]); omega)
      have Db : Hid ((Val.setV b).dep ≤ 1000000) := Lib.hid (by rw [Val.setV_dep]; have := Val.deps_le (l := b) (n := 62) fun y hy => hdl y (by simp [hy]); omega)
      have Dc : Hid ((Val.setV (a ++ b)).dep ≤ 1000000) := Lib.hid (by rw [Val.setV_dep]; have := Val.deps_le (l := a ++ b) (n := 62) hdl; omega)
      clear hdl
      replace B5 := Lib.hid (B5.out.ext H3.out)
      replace VX := Lib.hid (VX.out.ext H3.out)
      replace VA := Lib.hid (VA.out.ext H3.out)
      replace VB := Lib.hid (VB.out.ext H3.out)
      go_wp2_with (refine wpList_load_cells rfl 27 (.tmp 5) rfl (w.heap.size) 0 rfl Try.agg27 Try.size27 rfl (B5.out.ext HXr.out).2 ?_)
      refine (few_ok03 _ x 0 _ _ [_, _, _, _, _, _, _, _] (Nat.le_refl _) (by omega) (by omega) (InW.lt _) (VX.out.ext HXr.out)).mono ?_
      rintro e w4 ⟨rfl, hx4⟩
      have H4 := Lib.hid (HXr.out.trans hx4)
      clear hx4
      have Hd := Lib.hid (show x.few 0 = true → x.dep ≤ 62 from Val.dep_le)
      generalize x.few 0 = fy at *
      cases fy
      · go_wp2_with fail
        go_ret
        exact ⟨rfl, HX1.out.trans (H3.out.trans H4.out)⟩
      have Dx : Hid (x.dep ≤ 1000000) := Lib.hid (by have := Hd.out rfl; omega)
      obtain ⟨d0, d1, d2, d3, d4, d5, d6, d7⟩ := (B5.out.ext H4.out).cells
      go_wp2_with fail
      clear d0 d1 d2 d3 d4 d5 d6 d7
      refine (size_ok03 _ x _ _ [_, _, _, _, _, _, _, _] (Nat.le_refl _) (InW.lt _) (VX.out.ext H4.out)).mono ?_
      rintro e w5 ⟨sz, _, rfl, hx5⟩
      have H5 := Lib.hid (H4.out.trans hx5)
      clear hx5 H4
      by_cases hsz : 50 < sz
      · have t0 : decide (50 < sz) = true := by simpa using hsz
        clear hsz
        go_wp2_with fail
        go_ret
        exact ⟨rfl, HX1.out.trans (H3.out.trans H5.out)⟩
      have t0 : decide (50 < sz) = false := by simpa using hsz
      clear hsz
      have hbad := unions_bad (a := a) (b := b)
      have hgood := fun (y : Val) => unions (a := a) (b := b) (y := y)
      have hxi := canon_is (v := x)
      obtain ⟨⟨ra, ea⟩, hra⟩ : ∃ r, r = (Val.setV a).canon := ⟨_, rfl⟩
      obtain ⟨⟨rb, eb⟩, hrb⟩ : ∃ r, r = (Val.setV b).canon := ⟨_, rfl⟩
      obtain ⟨⟨ru, eu⟩, hru⟩ : ∃ r, r = (Val.setV (a ++ b)).canon := ⟨_, rfl⟩
      obtain ⟨⟨rx, ex⟩, hrx⟩ : ∃ r, r = x.canon := ⟨_, rfl⟩
      rw [← hra, ← hrb, ← hru] at hbad hgood
      rw [← hrx] at hxi
      simp only at hbad hgood hxi
      have HBad := Lib.hid hbad
      have HGood := Lib.hid hgood
      have HXi := Lib.hid hxi
      have Hra := Lib.hid hra
      have Hrb := Lib.hid hrb
      have Hru := Lib.hid hru
      have Hrx := Lib.hid hrx
      clear hbad hgood hxi hra hrb hru hrx
      go_wp2_with fail
      clear t0
      have hc := canon_okP (Val.setV a) _ _ [.int .i64 5, .bool false, .int .i64 0, .string ByteArray.empty, .string ByteArray.empty, .string ByteArray.empty, .slice Aa a.length capA, .slice none 0 0] Da.out (InW.lt _) (Val.set_at (VA.out.ext H5.out))
      rw [← Hra.out] at hc
      refine hc.mono ?_
      clear hc
      rintro e w6 ⟨cs, rfl, hat, hx⟩
      obtain ⟨p0, p1, p2, p3, p4, p5, p6, p7, p8, p9, pa, pb, rfl⟩ := hat.shape
      have Vp := Lib.hid ((InW.of hat fun b hb => hb.2).ext ((Ext.refl w6).alloc (.cells #[.int .i64 p0, .bool p1, .int .i64 p2, .string p3, .string p4, .string p5, .slice p6 p7 p8, .slice p9 pa pb] 27)))
      have Xp := Lib.hid (BoxAt.new w6 27 [.int .i64 p0, .bool p1, .int .i64 p2, .string p3, .string p4, .string p5, .slice p6 p7 p8, .slice p9 pa pb])
      have H6 := Lib.hid ((H5.out.trans hx).alloc (.cells #[.int .i64 p0, .bool p1, .int .i64 p2, .string p3, .string p4, .string p5, .slice p6 p7 p8, .slice p9 pa pb] 27))
      clear hx H5 hat
      go_wp2_with fail
      have hc := canon_okP (Val.setV b) _ _ [.int .i64 5, .bool false, .int .i64 0, .string ByteArray.empty, .string ByteArray.empty, .string ByteArray.empty, .slice Ab b.length capB, .slice none 0 0] Db.out (InW.lt _) (Val.set_at (VB.out.ext H6.out))
      rw [← Hrb.out] at hc
      refine hc.mono ?_
      clear hc
      rintro e w7 ⟨cs, rfl, hat, hx⟩
      obtain ⟨q0, q1, q2, q3, q4, q5, q6, q7, q8, q9, qa, qb, rfl⟩ := hat.shape
      have Vq := Lib.hid ((InW.of hat fun b hb => hb.2).ext ((Ext.refl w7).alloc (.cells #[.int .i64 q0, .bool q1, .int .i64 q2, .string q3, .string q4, .string q5, .slice q6 q7 q8, .slice q9 qa qb] 27)))
      have Xq := Lib.hid (BoxAt.new w7 27 [.int .i64 q0, .bool q1, .int .i64 q2, .string q3, .string q4, .string q5, .slice q6 q7 q8, .slice q9 qa qb])
      replace Vp := Lib.hid (Vp.out.ext (hx.alloc (.cells #[.int .i64 q0, .bool q1, .int .i64 q2, .string q3, .string q4, .string q5, .slice q6 q7 q8, .slice q9 qa qb] 27)))
      replace Xp := Lib.hid (Xp.out.ext (hx.alloc (.cells #[.int .i64 q0, .bool q1, .int .i64 q2, .string q3, .string q4, .string q5, .slice q6 q7 q8, .slice q9 qa qb] 27)))
      have H7 := Lib.hid ((H6.out.trans hx).alloc (.cells #[.int .i64 q0, .bool q1, .int .i64 q2, .string q3, .string q4, .string q5, .slice q6 q7 q8, .slice q9 qa qb] 27))
      clear hx H6 hat
      go_wp2_with fail
      have hc := canon_okP (Val.setV (a ++ b)) _ _ [.int .i64 5, .bool false, .int .i64 0, .string ByteArray.empty, .string ByteArray.empty, .string ByteArray.empty, .slice Au2 k cu2, .slice none 0 0] Dc.out (InW.lt _) (Val.set_at (VL.out.ext H7.out))
      rw [← Hru.out] at hc
      refine hc.mono ?_
      clear hc
      rintro e w8 ⟨cs, rfl, hat, hx⟩
      obtain ⟨s0, s1, s2, s3, s4, s5, s6, s7, s8, s9, sa, sb, rfl⟩ := hat.shape
      have Vs := Lib.hid ((InW.of hat fun b hb => hb.2).ext ((Ext.refl w8).alloc (.cells #[.int .i64 s0, .bool s1, .int .i64 s2, .string s3, .string s4, .string s5, .slice s6 s7 s8, .slice s9 sa sb] 27)))
      have Xs := Lib.hid (BoxAt.new w8 27 [.int .i64 s0, .bool s1, .int .i64 s2, .string s3, .string s4, .string s5, .slice s6 s7 s8, .slice s9 sa sb])
      replace Vp := Lib.hid (Vp.out.ext (hx.alloc (.cells #[.int .i64 s0, .bool s1, .int .i64 s2, .string s3, .string s4, .string s5, .slice s6 s7 s8, .slice s9 sa sb] 27)))
      replace Xp := Lib.hid (Xp.out.ext (hx.alloc (.cells #[.int .i64 s0, .bool s1, .int .i64 s2, .string s3, .string s4, .string s5, .slice s6 s7 s8, .slice s9 sa sb] 27)))
      replace Vq := Lib.hid (Vq.out.ext (hx.alloc (.cells #[.int .i64 s0, .bool s1, .int .i64 s2, .string s3, .string s4, .string s5, .slice s6 s7 s8, .slice s9 sa sb] 27)))
      replace Xq := Lib.hid (Xq.out.ext (hx.alloc (.cells #[.int .i64 s0, .bool s1, .int .i64 s2, .string s3, .string s4, .string s5, .slice s6 s7 s8, .slice s9 sa sb] 27)))
      have H8 := Lib.hid ((H7.out.trans hx).alloc (.cells #[.int .i64 s0, .bool s1, .int .i64 s2, .string s3, .string s4, .string s5, .slice s6 s7 s8, .slice s9 sa sb] 27))
      clear hx H7 hat
      go_wp2_with (refine wpList_load_cells rfl 27 (.tmp 5) rfl (w.heap.size) 0 rfl Try.agg27 Try.size27 rfl (B5.out.ext H8.out).2 ?_)
      have hc := canon_okP x _ _ [_, _, _, _, _, _, _, _] Dx.out (InW.lt _) (VX.out.ext H8.out)
      rw [← Hrx.out] at hc
      refine hc.mono ?_
      clear hc
      rintro e w9 ⟨cs, rfl, hat, hx⟩
      obtain ⟨t0, t1, t2, t3, t4, t5, t6, t7, t8, t9, ta, tb, rfl⟩ := hat.shape
      have Vt := Lib.hid ((InW.of hat fun b hb => hb.2).ext ((Ext.refl w9).alloc (.cells #[.int .i64 t0, .bool t1, .int .i64 t2, .string t3, .string t4, .string t5, .slice t6 t7 t8, .slice t9 ta tb] 27)))
      have Xt := Lib.hid (BoxAt.new w9 27 [.int .i64 t0, .bool t1, .int .i64 t2, .string t3, .string t4, .string t5, .slice t6 t7 t8, .slice t9 ta tb])
      replace Vp := Lib.hid (Vp.out.ext (hx.alloc (.cells #[.int .i64 t0, .bool t1, .int .i64 t2, .string t3, .string t4, .string t5, .slice t6 t7 t8, .slice t9 ta tb] 27)))
      replace Xp := Lib.hid (Xp.out.ext (hx.alloc (.cells #[.int .i64 t0, .bool t1, .int .i64 t2, .string t3, .string t4, .string t5, .slice t6 t7 t8, .slice t9 ta tb] 27)))
      replace Vq := Lib.hid (Vq.out.ext (hx.alloc (.cells #[.int .i64 t0, .bool t1, .int .i64 t2, .string t3, .string t4, .string t5, .slice t6 t7 t8, .slice t9 ta tb] 27)))
      replace Xq := Lib.hid (Xq.out.ext (hx.alloc (.cells #[.int .i64 t0, .bool t1, .int .i64 t2, .string t3, .string t4, .string t5, .slice t6 t7 t8, .slice t9 ta tb] 27)))
      replace Vs := Lib.hid (Vs.out.ext (hx.alloc (.cells #[.int .i64 t0, .bool t1, .int .i64 t2, .string t3, .string t4, .string t5, .slice t6 t7 t8, .slice t9 ta tb] 27)))
      replace Xs := Lib.hid (Xs.out.ext (hx.alloc (.cells #[.int .i64 t0, .bool t1, .int .i64 t2, .string t3, .string t4, .string t5, .slice t6 t7 t8, .slice t9 ta tb] 27)))
      have H9 := Lib.hid ((H8.out.trans hx).alloc (.cells #[.int .i64 t0, .bool t1, .int .i64 t2, .string t3, .string t4, .string t5, .slice t6 t7 t8, .slice t9 ta tb] 27))
      clear hx H8 hat
      by_cases hea : ea = 0
      rotate_left 1
      · have ta : (ea != 0) = true := by simpa using hea
        have tu : (eu != 0) = true := by simpa using HBad.out (.inl hea) ha10 hb10
        clear hea
        go_wp2_with fail
        go_ret
        exact ⟨rfl, HX1.out.trans (H3.out.trans H9.out)⟩
      by_cases heb : eb = 0
      rotate_left 1
      · have ta : (ea != 0) = false := by simpa using hea
        have tb : (eb != 0) = true := by simpa using heb
        have tu : (eu != 0) = true := by simpa using HBad.out (.inr heb) ha10 hb10
        clear hea heb
        go_wp2_with fail
        go_ret
        exact ⟨rfl, HX1.out.trans (H3.out.trans H9.out)⟩
      by_cases hex : ex = 0
      rotate_left 1
      · have ta : (ea != 0) = false := by simpa using hea
        have tb : (eb != 0) = false := by simpa using heb
        have tx : (ex != 0) = true := by simpa using hex
        clear hea heb hex
        obtain ⟨tv, htv⟩ : ∃ tv, tv = (eu != 0) := ⟨_, rfl⟩
        cases tv
        · have tu := htv.symm
          clear htv
          go_wp2_with fail
          go_ret
          exact ⟨rfl, HX1.out.trans (H3.out.trans H9.out)⟩
        · have tu := htv.symm
          clear htv
          go_wp2_with fail
          go_ret
          exact ⟨rfl, HX1.out.trans (H3.out.trans H9.out)⟩
      subst hea heb hex
      obtain ⟨g1, g2, g3⟩ := HGood.out rx rfl rfl (HXi.out rfl) ha10 hb10
      subst g1
      obtain ⟨hs, hhs⟩ : ∃ h, h = ra.holds rx := ⟨_, rfl⟩
      obtain ⟨ht, hht⟩ : ∃ h, h = rb.holds rx := ⟨_, rfl⟩
      rw [← hhs, ← hht] at g2
      obtain ⟨m1, m2⟩ := Vp.out.items
      obtain ⟨m3, m4⟩ := Vq.out.items
      obtain ⟨m5, m6⟩ := Vs.out.items
      rw [m1, m3, m5] at g3
      clear m1 m3 m5
      have HU : Hid (∀ X, Ext (w9.alloc (.cells #[.int .i64 t0, .bool t1, .int .i64 t2, .string t3, .string t4, .string t5, .slice t6 t7 t8, .slice t9 ta tb] 27)) X → Calls Try.prog 24 #[.agg #[.int .i64 s0, .bool s1, .int .i64 s2, .string s3, .string s4, .string s5, .slice s6 s7 s8, .slice s9 sa sb], .agg #[.int .i64 t0, .bool t1, .int .i64 t2, .string t3, .string t4, .string t5, .slice t6 t7 t8, .slice t9 ta tb]] X fun e w' => e = .returned (.bool (hs || ht)) ∧ Ext X w') := Lib.hid fun X hX => by
        have := holds_ok ru rx _ X [.int .i64 s0, .bool s1, .int .i64 s2, .string s3, .string s4, .string s5, .slice s6 s7 s8, .slice s9 sa sb] [.int .i64 t0, .bool t1, .int .i64 t2, .string t3, .string t4, .string t5, .slice t6 t7 t8, .slice t9 ta tb] (InW.lt _) (Vs.out.ext hX) (Vt.out.ext hX)
        rwa [g2] at this
      have HP : Hid (∀ X, Ext (w9.alloc (.cells #[.int .i64 t0, .bool t1, .int .i64 t2, .string t3, .string t4, .string t5, .slice t6 t7 t8, .slice t9 ta tb] 27)) X → Calls Try.prog 24 #[.agg #[.int .i64 p0, .bool p1, .int .i64 p2, .string p3, .string p4, .string p5, .slice p6 p7 p8, .slice p9 pa pb], .agg #[.int .i64 t0, .bool t1, .int .i64 t2, .string t3, .string t4, .string t5, .slice t6 t7 t8, .slice t9 ta tb]] X fun e w' => e = .returned (.bool (hs)) ∧ Ext X w') := Lib.hid fun X hX => by
        have := holds_ok ra rx _ X [.int .i64 p0, .bool p1, .int .i64 p2, .string p3, .string p4, .string p5, .slice p6 p7 p8, .slice p9 pa pb] [.int .i64 t0, .bool t1, .int .i64 t2, .string t3, .string t4, .string t5, .slice t6 t7 t8, .slice t9 ta tb] (InW.lt _) (Vp.out.ext hX) (Vt.out.ext hX)
        rwa [← hhs] at this
      have HQ : Hid (∀ X, Ext (w9.alloc (.cells #[.int .i64 t0, .bool t1, .int .i64 t2, .string t3, .string t4, .string t5, .slice t6 t7 t8, .slice t9 ta tb] 27)) X → Calls Try.prog 24 #[.agg #[.int .i64 q0, .bool q1, .int .i64 q2, .string q3, .string q4, .string q5, .slice q6 q7 q8, .slice q9 qa qb], .agg #[.int .i64 t0, .bool t1, .int .i64 t2, .string t3, .string t4, .string t5, .slice t6 t7 t8, .slice t9 ta tb]] X fun e w' => e = .returned (.bool (ht)) ∧ Ext X w') := Lib.hid fun X hX => by
        have := holds_ok rb rx _ X [.int .i64 q0, .bool q1, .int .i64 q2, .string q3, .string q4, .string q5, .slice q6 q7 q8, .slice q9 qa qb] [.int .i64 t0, .bool t1, .int .i64 t2, .string t3, .string t4, .string t5, .slice t6 t7 t8, .slice t9 ta tb] (InW.lt _) (Vq.out.ext hX) (Vt.out.ext hX)
        rwa [← hht] at this
      have n1 : IntKind.i64.wrap ((p7 : Int) + q7) = (p7 : Int) + q7 := IntWalk.i64_in _ (by omega)
      have n2 : decide ((s7 : Int) ≤ (p7 : Int) + q7) = true := by simp; omega
      clear g2 g3 hhs hht
      go_wp2_with fail
      obtain ⟨sf0, sf1, sf2, sf3, sf4, sf5, sf6, sf7⟩ := Xs.out.cells
      have sg0 := cell_regrown sf0
      have sg1 := cell_regrown sf1
      have sg2 := cell_regrown sf2
      have sg3 := cell_regrown sf3
      have sg4 := cell_regrown sf4
      have sg5 := cell_regrown sf5
      have sg6 := cell_regrown sf6
      have sg7 := cell_regrown sf7
      clear sf0 sf1 sf2 sf3 sf4 sf5 sf6 sf7
      obtain ⟨pf0, pf1, pf2, pf3, pf4, pf5, pf6, pf7⟩ := Xp.out.cells
      have pg0 := cell_regrown pf0
      have pg1 := cell_regrown pf1
      have pg2 := cell_regrown pf2
      have pg3 := cell_regrown pf3
      have pg4 := cell_regrown pf4
      have pg5 := cell_regrown pf5
      have pg6 := cell_regrown pf6
      have pg7 := cell_regrown pf7
      clear pf0 pf1 pf2 pf3 pf4 pf5 pf6 pf7
      obtain ⟨qf0, qf1, qf2, qf3, qf4, qf5, qf6, qf7⟩ := Xq.out.cells
      have qg0 := cell_regrown qf0
      have qg1 := cell_regrown qf1
      have qg2 := cell_regrown qf2
      have qg3 := cell_regrown qf3
      have qg4 := cell_regrown qf4
      have qg5 := cell_regrown qf5
      have qg6 := cell_regrown qf6
      have qg7 := cell_regrown qf7
      clear qf0 qf1 qf2 qf3 qf4 qf5 qf6 qf7
      obtain ⟨tf0, tf1, tf2, tf3, tf4, tf5, tf6, tf7⟩ := Xt.out.cells
      have tg0 := cell_regrown tf0
      have tg1 := cell_regrown tf1
      have tg2 := cell_regrown tf2
      have tg3 := cell_regrown tf3
      have tg4 := cell_regrown tf4
      have tg5 := cell_regrown tf5
      have tg6 := cell_regrown tf6
      have tg7 := cell_regrown tf7
      clear tf0 tf1 tf2 tf3 tf4 tf5 tf6 tf7
      cases hs
      all_goals
        refine region_later (by kernel_rfl) (by kernel_rfl) ?_
        iterate 5 (go_big_quiet_step (fail))
        go_big_quiet_step ((go_at_call 24; exact later_call HU.out _ _))
        iterate 2 (go_big_quiet_step (fail))
        go_big_quiet_step ((go_at_call 24; exact later_call HP.out _ _))
        iterate 3 (go_big_quiet_step (fail))
        go_big_quiet_step ((go_at_call 24; exact later_call HQ.out _ _))
        iterate 13 (go_big_quiet_step (fail))
        repeat (go_big_quiet_step (fail))
        refine wpQuiet_nil ?_
        intro x9 hx9
        have G9 := Lib.hid hx9
        clear hx9 sg0 sg1 sg2 sg3 sg4 sg5 sg6 sg7 pg0 pg1 pg2 pg3 pg4 pg5 pg6 pg7 qg0 qg1 qg2 qg3 qg4 qg5 qg6 qg7 tg0 tg1 tg2 tg3 tg4 tg5 tg6 tg7 n1 n2
        go_wp2_with fail
        go_ret
        exact ⟨rfl, HX1.out.trans (H3.out.trans (H9.out.trans G9.out))⟩
end Go.Proofs.Ytpkgkabcikmopaa
