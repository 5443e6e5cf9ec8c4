/-
  The walk of layer 4's law CodecDecodes: it answers true. The conditions: the arguments lie in old memory; the value is of mass at most 1048576.
-/
import Derived.Test.YtpkgkabcikmopaaAwake4
import Derived.Test.YtpkgkabcikmopaaDecodeR
namespace Go.Proofs.Ytpkgkabcikmopaa
open Go.RowKit

theorem i64_and_pow (n : Int) (k m : Nat) (hm : (BitVec.ofInt 64 (m : Int)).toNat = 2 ^ k - 1) (hk : k ≤ 62) : bits .and .i64 n (m : Int) = n % ((2 ^ k : Nat) : Int) := by
  have hpow : 2 ^ k ≤ 2 ^ 62 := Nat.pow_le_pow_right (by omega) hk
  have hdvd : (2 ^ k : Nat) ∣ 2 ^ 64 := Nat.pow_dvd_pow 2 (by omega)
  have key : (BitVec.ofInt 64 n &&& BitVec.ofInt 64 (m : Int)).toNat = (n % ((2 ^ 64 : Nat) : Int)).toNat % 2 ^ k := by
    rw [BitVec.toNat_and, BitVec.toNat_ofInt, hm, Nat.and_two_pow_sub_one_eq_mod]
  show IntKind.i64.wrap ((BitVec.ofInt 64 n &&& BitVec.ofInt 64 (m : Int)).toNat : Nat) = _
  rw [key, IntKind.wrap_i64]
  have h1 : (((n % ((2 ^ 64 : Nat) : Int)).toNat % 2 ^ k : Nat) : Int) = n % ((2 ^ k : Nat) : Int) := by
    rw [Int.natCast_emod, Int.toNat_of_nonneg (Int.emod_nonneg _ (by decide)), Int.emod_emod_of_dvd _ (Int.natCast_dvd_natCast.2 hdvd)]
  rw [h1]
  have h2 := Int.emod_nonneg n (b := ((2 ^ k : Nat) : Int)) (by have := Nat.pow_pos (n := k) (show 0 < 2 by omega); omega)
  have h3 := Int.emod_lt_of_pos n (b := ((2 ^ k : Nat) : Int)) (by have := Nat.pow_pos (n := k) (show 0 < 2 by omega); omega)
  have h4 : (2 ^ k : Nat) ≤ 4611686018427387904 := Nat.le_trans hpow (by decide)
  generalize n % ((2 ^ k : Nat) : Int) = y at *
  omega
theorem i64_and_nat (n : Int) (k m : Nat) (hm : (BitVec.ofInt 64 (m : Int)).toNat = 2 ^ k - 1) (hk : k ≤ 62) : ∃ a : Nat, bits .and .i64 n (m : Int) = (a : Int) ∧ a < 2 ^ k := by
  have hp : 0 < 2 ^ k := Nat.pow_pos (by omega)
  have h2 := Int.emod_nonneg n (b := ((2 ^ k : Nat) : Int)) (by omega)
  have h3 := Int.emod_lt_of_pos n (b := ((2 ^ k : Nat) : Int)) (by omega)
  exact ⟨(n % ((2 ^ k : Nat) : Int)).toNat, by rw [i64_and_pow n k m hm hk, Int.toNat_of_nonneg h2], by omega⟩
theorem ByteRow.set {base g n c : Nat} {w w' : World} {bs : List UInt8} {cur : Array Value} (h : ByteRow base w (.slice (some ⟨g, 0, none⟩) n c) bs) (hg : w.heap[g]? = some (.cells cur 5 (0, 0))) (j : Nat) (b : UInt8) (hw : w'.heap[g]? = some (.cells (cur.setIfInBounds j (.int .u8 b.toNat)) 5 (0, 0))) :
    ByteRow base w' (.slice (some ⟨g, 0, none⟩) n c) (bs.set j b) := by
  unfold ByteRow at h ⊢
  obtain ⟨h1, h2⟩ := h
  rcases h2 with ⟨h2, _⟩ | ⟨g', c', cur', e, h3, h4, h5, h6, h7, h8⟩
  · cases h2
  · injection e with e1 e2 e3
    injection e1 with e1
    injection e1 with e1 _
    subst e1 e3
    rw [hg] at h4
    injection h4 with h4
    injection h4 with h4
    subst h4
    refine ⟨by rw [cellsB_length, List.length_set]; omega, .inr ⟨g, c, _, by rw [List.length_set, ← e2], h3, hw, by rw [List.length_set]; exact h5, h6, by rw [Array.size_setIfInBounds]; exact h7, ?_⟩⟩
    rw [Array.toList_setIfInBounds, List.length_set, List.take_set, h8]
    unfold cellsB
    rw [List.map_set]
theorem ByteRow.cut {k : Nat} {w : World} {A : Option Addr} {n c : Nat} {bs : List UInt8} (h : BytesIn w (.slice A n c) bs) (hk : k ≤ bs.length) : BytesIn w (.slice A k c) (bs.take k) := by
  obtain ⟨A', c', e, h1, h2, h3⟩ := h
  injection e with e1 e2 e3
  subst e1 e3
  have hl : (bs.take k).length = k := by rw [List.length_take]; omega
  refine ⟨A, c, by rw [hl], by omega, h2, fun h0 => ?_⟩
  obtain ⟨b, of, e, hb, hc⟩ := h3 (by omega)
  refine ⟨b, of, e, hb, fun j v hj => hc j v ?_⟩
  unfold cellsB at hj ⊢
  rw [List.getElem?_map, List.getElem?_take] at hj
  rw [List.getElem?_map]
  split at hj
  · exact hj
  · cases hj

set_option maxRecDepth 100000 in
set_option maxHeartbeats 3200000 in
theorem codecDecodes_walk (v : Val) (turn : List Int) (cut : Int) (raw : List UInt8) (w : World) (cv : List Value) (vt vr : Value) (hv : InW w v cv) (hm : v.mass ≤ 1048576) (ht : IntsAt .i64 (fun b => b < w.heap.size) w turn vt) (hr : BytesIn w vr raw) (hrl : raw.length ≤ 1073741824) :
    Calls Try.prog 10 #[.agg cv.toArray, vt, .int .i64 cut, vr] w fun e w' => e = .returned (.bool true) ∧ Ext w w' := by
  obtain ⟨r0, r1, r2, r3, r4, r5, r6, r7, r8, r9, ra, rb, rfl⟩ := Val.At.shape hv
  have HV := Lib.hid hv
  have HRaw := Lib.hid hr
  obtain ⟨A0, c0, rfl, hr1, hr2, hr3⟩ := hr
  obtain ⟨A1, c1, rfl, ht0, ht1, ht2, ht3, ht4⟩ := ht
  have HT := Lib.hid ht4
  obtain ⟨N0, hN0⟩ : ∃ n, n = raw.length := ⟨_, rfl⟩
  obtain ⟨L, hL⟩ : ∃ n, n = turn.length := ⟨_, rfl⟩
  rw [← hN0] at hrl HRaw ⊢
  rw [← hL] at ht0 ht1 ⊢
  have HN0 := Lib.hid hN0
  have HL := Lib.hid hL
  have hLb : L ≤ 1073741824 := by unfold LIM at ht0; omega
  clear hv hr1 hr2 hr3 ht0 ht1 ht2 ht3 ht4 hN0 hL
  go_enter Try.func10, Try.ntmps10
  go_wp2_with fail
  refine (awake4_ok _).mono ?_
  rintro e w1 ⟨rfl, hx1⟩
  have B := Lib.hid ((BoxAt.new w 27 [.int .i64 r0, .bool r1, .int .i64 r2, .string r3, .string r4, .string r5, .slice r6 r7 r8, .slice r9 ra rb]).ext hx1)
  have HX1 := Lib.hid (((Ext.refl w).alloc _).trans hx1)
  have V := Lib.hid (HV.out.ext HX1.out)
  clear hx1 HV
  go_wp2_with (refine wpList_load_cells rfl 27 (.tmp 4) rfl w.heap.size 0 rfl Try.agg27 Try.size27 rfl (B.out).2 ?_)
  refine (few_ok04 _ v 0 _ _ [_, _, _, _, _, _, _, _] (Nat.le_refl _) (by omega) (by omega) (InW.lt _) V.out).mono ?_
  rintro e w2 ⟨rfl, hx⟩
  have H2 := Lib.hid hx
  clear hx
  have Hd := Lib.hid (show v.few 0 = true → v.dep ≤ 62 from Val.dep_le)
  generalize v.few 0 = fv at *
  cases fv
  · go_wp2_with fail
    go_ret
    exact ⟨rfl, HX1.out.trans H2.out⟩
  have D := Lib.hid (show v.dep ≤ 1000000 by have := Hd.out rfl; omega)
  clear Hd
  go_wp2_with (refine wpList_load_cells_g 27 (.tmp 4) rfl rfl w.heap.size 0 rfl Try.agg27 Try.size27 rfl (B.out.ext H2.out).2 ?_)
  refine (size_ok04 _ v _ _ [_, _, _, _, _, _, _, _] (Nat.le_refl _) (InW.lt _) (V.out.ext H2.out)).mono ?_
  rintro e w3 ⟨sz, hsz0, rfl, hx⟩
  have H3 := Lib.hid (H2.out.trans hx)
  clear hx H2 hsz0
  by_cases hsz : 500 < sz
  · have t0 : decide (500 < sz) = true := by simpa using hsz
    clear hsz
    go_wp2_with fail
    go_ret
    exact ⟨rfl, HX1.out.trans H3.out⟩
  have t0 : decide (500 < sz) = false := by simpa using hsz
  clear hsz
  by_cases hraw : 1000 < N0
  · have t1 : decide ((1000 : Int) < N0) = true := by simp; omega
    clear hraw
    go_wp2_with fail
    go_ret
    exact ⟨rfl, HX1.out.trans H3.out⟩
  have t1 : decide ((1000 : Int) < N0) = false := by simp; omega
  clear hraw
  have HR3 : Hid (BytesIn w3 (.slice A0 N0 c0) raw) := Lib.hid (by have := HRaw.out.ext (HX1.out.trans H3.out); rw [HN0.out]; rw [HN0.out] at this; exact this)
  go_wp2_with fail
  clear t0 t1
  refine (decode_okP raw w3 _ HR3.out (by rw [← HN0.out]; omega)).mono ?_
  rintro e w4 ⟨x, er, cs, rfl, hd, hat, hx⟩
  obtain ⟨p0, p1, p2, p3, p4, p5, p6, p7, p8, p9, pa, pb, rfl⟩ := hat.shape
  have HD := Lib.hid hd
  have HA := Lib.hid hat
  have HX4 := Lib.hid hx
  clear hd hat hx
  go_wp2_with fail
  refine (decode_okR raw _ _ (HR3.out.ext (HX4.out.alloc _)) (by rw [← HN0.out]; omega)).mono ?_
  rintro e w5 ⟨x', er', cs', rfl, hd, hat, hx⟩
  obtain ⟨rfl, rfl⟩ := hd.unique HD.out
  obtain ⟨q0, q1, q2, q3, q4, q5, q6, q7, q8, q9, qa, qb, rfl⟩ := hat.shape
  have hx6 : Ext w4 (w5.alloc (.cells [.int .i64 q0, .bool q1, .int .i64 q2, .string q3, .string q4, .string q5, .slice q6 q7 q8, .slice q9 qa qb].toArray 27)) := (((Ext.refl w4).alloc _).trans hx).alloc _
  have HB4 := Lib.hid ((BoxAt.new w4 27 [.int .i64 p0, .bool p1, .int .i64 p2, .string p3, .string p4, .string p5, .slice p6 p7 p8, .slice p9 pa pb]).ext (hx.alloc (.cells [.int .i64 q0, .bool q1, .int .i64 q2, .string q3, .string q4, .string q5, .slice q6 q7 q8, .slice q9 qa qb].toArray 27)))
  have HB5 := Lib.hid (BoxAt.new w5 27 [.int .i64 q0, .bool q1, .int .i64 q2, .string q3, .string q4, .string q5, .slice q6 q7 q8, .slice q9 qa qb])
  have HA1 := Lib.hid (HA.out.alike (Alike.of_ext hx6 fun b hb => hb.2) |>.mono fun b hb => Nat.lt_of_lt_of_le hb.2 hx6.size)
  have HA2 := Lib.hid (hat.alike (Alike.of_ext ((Ext.refl w5).alloc (.cells [.int .i64 q0, .bool q1, .int .i64 q2, .string q3, .string q4, .string q5, .slice q6 q7 q8, .slice q9 qa qb].toArray 27)) fun b hb => hb.2) |>.mono fun b hb => Nat.lt_of_lt_of_le hb.2 ((Ext.refl w5).alloc (.cells [.int .i64 q0, .bool q1, .int .i64 q2, .string q3, .string q4, .string q5, .slice q6 q7 q8, .slice q9 qa qb].toArray 27)).size)
  have HX6 := Lib.hid ((H3.out.trans HX4.out).trans hx6)
  clear hd hat hx hx6 HA HR3 HX4 HD
  go_wp2_with (first | refine wpList_load_cells rfl 27 (.tmp 11) rfl w4.heap.size 0 rfl Try.agg27 Try.size27 rfl (HB4.out).2 ?_ | refine wpList_load_cells rfl 27 (.tmp 13) rfl w5.heap.size 0 rfl Try.agg27 Try.size27 rfl (HB5.out).2 ?_)
  refine (whole_ok _ _ _ (fun b => b < (w5.alloc (.cells [.int .i64 q0, .bool q1, .int .i64 q2, .string q3, .string q4, .string q5, .slice q6 q7 q8, .slice q9 qa qb].toArray 27)).heap.size) _ _ _ (Nat.le_refl _) (fun _ h => h) HA1.out HA2.out).mono ?_
  rintro e w7 ⟨rfl, hx⟩
  have H7 := Lib.hid (HX6.out.trans hx)
  rw [eqB_true.2 rfl]
  clear hx HB4 HB5 HA1 HA2 HX6
  go_wp2_with (refine wpList_load_cells rfl 27 (.tmp 4) rfl w.heap.size 0 rfl Try.agg27 Try.size27 rfl (B.out.ext H7.out).2 ?_)
  have he := encode_okR v _ w7 [_, _, _, _, _, _, _, _] D.out (by omega) (InW.lt _) (V.out.ext H7.out)
  obtain ⟨⟨ob, oe⟩, hob⟩ : ∃ r, r = v.bytes := ⟨_, rfl⟩
  have hbl := v.bytes_len
  rw [← hob] at he hbl
  simp only at hbl
  clear hob
  refine he.mono ?_
  clear he
  rintro e w8 ⟨o8, rfl, hrow, hx⟩
  obtain ⟨A8, c8, rfl, hs1, hs2, hs3⟩ := hrow.shape
  obtain ⟨n, hn⟩ : ∃ n, n = ob.length := ⟨_, rfl⟩
  simp only at hrow hs2
  rw [← hn] at hrow hbl hs2 ⊢
  have HX8 := Lib.hid ((HX1.out.trans H7.out).trans hx)
  have hw8 : w.heap.size ≤ w7.heap.size := (HX1.out.trans H7.out).size
  have HRow := Lib.hid hrow
  have HN := Lib.hid hn
  have HTw := HT
  clear hx hs1 hrow hn B V D H3 H7 HX1 HRaw
  by_cases hn0 : n = 0
  · subst hn0
    go_wp2_with fail
    go_ret
    exact ⟨rfl, HX8.out⟩
  have t0 : ((n : Int) == 0) = false := by simp; omega
  obtain ⟨g, cap, cur0, e8, hgb, hg8, hnc, hcm, hcs, htk⟩ := HRow.out.2.resolve_left (fun h => by have := h.2; rw [← HN.out] at this; omega)
  injection e8 with e81 e82 e83
  subst e81 e83
  clear hg8 hcs htk hnc hcm cur0 e82
  go_wp2_with fail
  clear t0
  go_loopw [18] (fun u18 wr => ∃ i : Nat, u18 = .int .i64 i ∧ i ≤ 7 ∧ Hid (∃ bs : List UInt8, bs.length = n ∧ ByteRow w7.heap.size wr (.slice (some ⟨g, 0, none⟩) n c8) bs ∧ Ext w wr)) (fun u18 _ => 8 - (intOf u18).toNat)
  case atStart => exact ⟨0, rfl, by omega, Lib.hid ⟨ob, HN.out.symm, HRow.out, HX8.out⟩⟩
  case round =>
    obtain ⟨i, rfl, hi, HSt⟩ := hrel
    obtain ⟨bs, hbs, hrow, hxr⟩ := HSt.out
    have HBs := Lib.hid hbs
    have HRr := Lib.hid hrow
    have HXr := Lib.hid hxr
    clear HSt hbs hrow hxr
    by_cases h1 : i + 1 < L
    · by_cases h2 : i < 6
      · have t1 : decide ((i : Int) + 1 < L) = true := by simp; omega
        have t2 : decide ((i : Int) < 6) = true := by simp; omega
        obtain ⟨bt, ot, rfl, hbl, hct⟩ := HT.out (by rw [← HL.out]; omega)
        obtain ⟨ti, hti⟩ : ∃ x, turn[i]? = some x := ⟨_, List.getElem?_eq_getElem (by rw [← HL.out]; omega)⟩
        obtain ⟨tj, htj⟩ : ∃ x, turn[i + 1]? = some x := ⟨_, List.getElem?_eq_getElem (by rw [← HL.out]; omega)⟩
        have g1 : wr.cell? ⟨bt, ot + i, none⟩ = some (.int .i64 ti) := (World.cell?_of_block (a := ⟨bt, ot + i, none⟩) (HXr.out.block bt hbl)).trans (hct i _ (by rw [List.getElem?_map, hti]; rfl))
        have g2 : wr.cell? ⟨bt, ot + (i + 1), none⟩ = some (.int .i64 tj) := (World.cell?_of_block (a := ⟨bt, ot + (i + 1), none⟩) (HXr.out.block bt hbl)).trans (hct (i + 1) _ (by rw [List.getElem?_map, htj]; rfl))
        have c1' := cell_regrown g1
        have c2' := cell_regrown g2
        obtain ⟨a, ha, ha2⟩ := i64_and_nat ti 16 65535 (by decide) (by omega)
        obtain ⟨b, hb, hb2⟩ := i64_and_nat tj 8 255 (by decide) (by omega)
        have ha : bits .and .i64 ti 65535 = (a : Int) := ha
        have hb : bits .and .i64 tj 255 = (b : Int) := hb
        have h0 : i < L := by omega
        have h3 : (0 : Int) ≤ (i : Int) + 1 := by omega
        have h4 : (i : Int) + 1 < L := by omega
        obtain ⟨k, hk, hkn⟩ : ∃ k : Nat, (a : Int).tmod n = (k : Int) ∧ k < n := ⟨a % n, (Int.ofNat_tmod a n).symm, Nat.mod_lt _ (by omega)⟩
        have hw : IntKind.u8.wrap (b : Int) = (b : Int) := by
          have hb3 : b < 256 := hb2
          simp [IntKind.wrap, IntKind.signed, IntKind.bits]
          omega
        clear hbl hct hti htj g1 g2
        go_wp2_with fail
        have q1 : IntKind.i64.wrap ((i : Int) + 1) = ((i + 1 : Nat) : Int) := by rw [show (i : Int) + 1 = ((i + 1 : Nat) : Int) by omega]; exact IntWalk.i64_in _ (by omega)
        refine region_later_tail 16 (by kernel_rfl) (by kernel_rfl) ?_
        simp only [List.take_succ_cons, List.take_zero, List.drop_succ_cons, List.drop_zero]
        iterate 16 (quiet_step (fail))
        refine wpQuiet_nil ?_
        intro wq hwq
        have HXq := Lib.hid (HXr.out.trans hwq)
        have HRq := Lib.hid (HRr.out.ext hwq)
        obtain ⟨g', cap', cur, eq1, hgb', hgq, hnc', hcm', hcs', htk'⟩ := HRq.out.2.resolve_left (fun h => by have := h.2; rw [HBs.out] at this; omega)
        injection eq1 with eq2 eq3 eq4
        injection eq2 with eq2
        injection eq2 with eq2 eq5
        subst eq2 eq4
        have HGq := Lib.hid hgq
        have hcz : k < cur.size := by rw [HBs.out] at hnc'; have h9 : cur.size = c8 * 1 := hcs'; rw [Nat.mul_one] at h9; omega
        clear hwq c1' c2' q1 hgq hgb' hnc' hcm' hcs' htk' eq3 eq5 h0 h3 h4
        go_wp2_with (refine wpList_store_one rfl 5 (.tmp 95) (.tmp 94) rfl g k rfl (.int .u8 b) rfl rfl rfl Try.elemBs _ cur HGq.out hcz ?_; intro wy hy1 hy2; have HY1 := Lib.hid hy1; have HY2 := Lib.hid hy2; clear hy1 hy2)
        go_roundw
        case rel =>
          refine ⟨i + 2, by go_num, by omega, Lib.hid ⟨bs.set k (UInt8.ofNat b), by rw [List.length_set]; exact HBs.out, HRq.out.set HGq.out k (UInt8.ofNat b) (by rw [show (((UInt8.ofNat b).toNat : Nat) : Int) = (b : Int) by rw [UInt8.toNat_ofNat']; have : b < 256 := hb2; omega]; exact HY1.out), HXq.out.fresh HY2.out (by omega)⟩⟩
        case measure => simp [intOf]; omega
      · have t1 : decide ((i : Int) + 1 < L) = true := by simp; omega
        have t2 : decide ((i : Int) < 6) = false := by simp; omega
        clear h1 h2
        obtain ⟨m3, hm3, hm4⟩ := i64_and_nat cut 2 3 (by decide) (by omega)
        have hm3 : bits .and .i64 cut 3 = (m3 : Int) := hm3
        have HXs : Hid (bs.length ≤ 65536) := Lib.hid (by rw [HBs.out]; exact hbl)
        have HIn : Hid (BytesIn wr (.slice (some ⟨g, 0, none⟩) n c8) bs) := Lib.hid HRr.out.isIn
        by_cases hc1 : m3 = 1
        · have t5 : ((m3 : Int) == 1) = true := by rw [hc1]; rfl
          clear hc1
          obtain ⟨a, ha, ha2⟩ := i64_and_nat (cut / 4) 16 65535 (by decide) (by omega)
          have ha : bits .and .i64 (cut / 4) 65535 = (a : Int) := ha
          obtain ⟨k, hk, hkn⟩ : ∃ k : Nat, (a : Int).tmod n = (k : Int) ∧ k < n := ⟨a % n, (Int.ofNat_tmod a n).symm, Nat.mod_lt _ (by omega)⟩
          have HIn2 : Hid (BytesIn wr (.slice (some ⟨g, 0, none⟩) k c8) (bs.take k)) := Lib.hid (ByteRow.cut HIn.out (by rw [HBs.out]; omega))
          have HXs : Hid ((bs.take k).length ≤ 65536) := Lib.hid (by rw [List.length_take]; have := HXs.out; omega)
          go_wp2_with (refine wpList_cut_to rfl 47 (.tmp 99) (.tmp 105) rfl 1 Try.elemB Try.elemBs (some ⟨g, 0, none⟩) n c8 k rfl rfl (by omega) ?_)
          refine (decode_okP (bs.take k) wr _ HIn2.out (by have := HXs.out; omega)).mono ?_
          rintro e wa ⟨x, er, cs, rfl, hd, hat, hx⟩
          obtain ⟨p0, p1, p2, p3, p4, p5, p6, p7, p8, p9, pa, pb, rfl⟩ := hat.shape
          have HD := Lib.hid hd
          have HA := Lib.hid hat
          have HXa := Lib.hid hx
          clear hd hat hx
          go_wp2_with fail
          refine (decode_okR (bs.take k) _ _ (BytesIn.ext (HIn2.out) (HXa.out.alloc _)) (by have := HXs.out; omega)).mono ?_
          rintro e wb ⟨x', er', cs', rfl, hd, hat, hx⟩
          obtain ⟨rfl, rfl⟩ := hd.unique HD.out
          obtain ⟨q0, q1, q2, q3, q4, q5, q6, q7, q8, q9, qa, qb, rfl⟩ := hat.shape
          have hxc : Ext wa (wb.alloc (.cells [.int .i64 q0, .bool q1, .int .i64 q2, .string q3, .string q4, .string q5, .slice q6 q7 q8, .slice q9 qa qb].toArray 27)) := (((Ext.refl wa).alloc _).trans hx).alloc _
          have HBa := Lib.hid ((BoxAt.new wa 27 [.int .i64 p0, .bool p1, .int .i64 p2, .string p3, .string p4, .string p5, .slice p6 p7 p8, .slice p9 pa pb]).ext (hx.alloc (.cells [.int .i64 q0, .bool q1, .int .i64 q2, .string q3, .string q4, .string q5, .slice q6 q7 q8, .slice q9 qa qb].toArray 27)))
          have HBb := Lib.hid (BoxAt.new wb 27 [.int .i64 q0, .bool q1, .int .i64 q2, .string q3, .string q4, .string q5, .slice q6 q7 q8, .slice q9 qa qb])
          have HA1 := Lib.hid (HA.out.alike (Alike.of_ext hxc fun b hb => hb.2) |>.mono fun b hb => Nat.lt_of_lt_of_le hb.2 hxc.size)
          have HA2 := Lib.hid (hat.alike (Alike.of_ext ((Ext.refl wb).alloc (.cells [.int .i64 q0, .bool q1, .int .i64 q2, .string q3, .string q4, .string q5, .slice q6 q7 q8, .slice q9 qa qb].toArray 27)) fun b hb => hb.2) |>.mono fun b hb => Nat.lt_of_lt_of_le hb.2 ((Ext.refl wb).alloc (.cells [.int .i64 q0, .bool q1, .int .i64 q2, .string q3, .string q4, .string q5, .slice q6 q7 q8, .slice q9 qa qb].toArray 27)).size)
          have HXc := Lib.hid ((HXr.out.trans HXa.out).trans hxc)
          clear hd hat hx hxc HA HXa HD
          go_wp2_with (first | refine wpList_load_cells_g 27 (.tmp 19) rfl rfl wa.heap.size 0 rfl Try.agg27 Try.size27 rfl (HBa.out).2 ?_ | refine wpList_load_cells_g 27 (.tmp 21) rfl rfl wb.heap.size 0 rfl Try.agg27 Try.size27 rfl (HBb.out).2 ?_)
          refine (whole_ok _ _ _ (fun b => b < (wb.alloc (.cells [.int .i64 q0, .bool q1, .int .i64 q2, .string q3, .string q4, .string q5, .slice q6 q7 q8, .slice q9 qa qb].toArray 27)).heap.size) _ _ _ (Nat.le_refl _) (fun _ h => h) HA1.out HA2.out).mono ?_
          rintro e wc ⟨rfl, hx⟩
          have HXd := Lib.hid (HXc.out.trans hx)
          rw [eqB_true.2 rfl]
          clear hx HBa HBb HA1 HA2 HXc
          go_wp2_with fail
          go_ret
          exact ⟨rfl, HXd.out⟩
        · have t5 : ((m3 : Int) == 1) = false := by simp; omega
          clear hc1
          go_wp2_with fail
          refine (decode_okP bs wr _ HIn.out (by have := HXs.out; omega)).mono ?_
          rintro e wa ⟨x, er, cs, rfl, hd, hat, hx⟩
          obtain ⟨p0, p1, p2, p3, p4, p5, p6, p7, p8, p9, pa, pb, rfl⟩ := hat.shape
          have HD := Lib.hid hd
          have HA := Lib.hid hat
          have HXa := Lib.hid hx
          clear hd hat hx
          go_wp2_with fail
          refine (decode_okR bs _ _ (BytesIn.ext (HIn.out) (HXa.out.alloc _)) (by have := HXs.out; omega)).mono ?_
          rintro e wb ⟨x', er', cs', rfl, hd, hat, hx⟩
          obtain ⟨rfl, rfl⟩ := hd.unique HD.out
          obtain ⟨q0, q1, q2, q3, q4, q5, q6, q7, q8, q9, qa, qb, rfl⟩ := hat.shape
          have hxc : Ext wa (wb.alloc (.cells [.int .i64 q0, .bool q1, .int .i64 q2, .string q3, .string q4, .string q5, .slice q6 q7 q8, .slice q9 qa qb].toArray 27)) := (((Ext.refl wa).alloc _).trans hx).alloc _
          have HBa := Lib.hid ((BoxAt.new wa 27 [.int .i64 p0, .bool p1, .int .i64 p2, .string p3, .string p4, .string p5, .slice p6 p7 p8, .slice p9 pa pb]).ext (hx.alloc (.cells [.int .i64 q0, .bool q1, .int .i64 q2, .string q3, .string q4, .string q5, .slice q6 q7 q8, .slice q9 qa qb].toArray 27)))
          have HBb := Lib.hid (BoxAt.new wb 27 [.int .i64 q0, .bool q1, .int .i64 q2, .string q3, .string q4, .string q5, .slice q6 q7 q8, .slice q9 qa qb])
          have HA1 := Lib.hid (HA.out.alike (Alike.of_ext hxc fun b hb => hb.2) |>.mono fun b hb => Nat.lt_of_lt_of_le hb.2 hxc.size)
          have HA2 := Lib.hid (hat.alike (Alike.of_ext ((Ext.refl wb).alloc (.cells [.int .i64 q0, .bool q1, .int .i64 q2, .string q3, .string q4, .string q5, .slice q6 q7 q8, .slice q9 qa qb].toArray 27)) fun b hb => hb.2) |>.mono fun b hb => Nat.lt_of_lt_of_le hb.2 ((Ext.refl wb).alloc (.cells [.int .i64 q0, .bool q1, .int .i64 q2, .string q3, .string q4, .string q5, .slice q6 q7 q8, .slice q9 qa qb].toArray 27)).size)
          have HXc := Lib.hid ((HXr.out.trans HXa.out).trans hxc)
          clear hd hat hx hxc HA HXa HD
          go_wp2_with (first | refine wpList_load_cells_g 27 (.tmp 19) rfl rfl wa.heap.size 0 rfl Try.agg27 Try.size27 rfl (HBa.out).2 ?_ | refine wpList_load_cells_g 27 (.tmp 21) rfl rfl wb.heap.size 0 rfl Try.agg27 Try.size27 rfl (HBb.out).2 ?_)
          refine (whole_ok _ _ _ (fun b => b < (wb.alloc (.cells [.int .i64 q0, .bool q1, .int .i64 q2, .string q3, .string q4, .string q5, .slice q6 q7 q8, .slice q9 qa qb].toArray 27)).heap.size) _ _ _ (Nat.le_refl _) (fun _ h => h) HA1.out HA2.out).mono ?_
          rintro e wc ⟨rfl, hx⟩
          have HXd := Lib.hid (HXc.out.trans hx)
          rw [eqB_true.2 rfl]
          clear hx HBa HBb HA1 HA2 HXc
          go_wp2_with fail
          go_ret
          exact ⟨rfl, HXd.out⟩
    · have t1 : decide ((i : Int) + 1 < L) = false := by simp; omega
      clear h1
      obtain ⟨m3, hm3, hm4⟩ := i64_and_nat cut 2 3 (by decide) (by omega)
      have hm3 : bits .and .i64 cut 3 = (m3 : Int) := hm3
      have HXs : Hid (bs.length ≤ 65536) := Lib.hid (by rw [HBs.out]; exact hbl)
      have HIn : Hid (BytesIn wr (.slice (some ⟨g, 0, none⟩) n c8) bs) := Lib.hid HRr.out.isIn
      by_cases hc1 : m3 = 1
      · have t5 : ((m3 : Int) == 1) = true := by rw [hc1]; rfl
        clear hc1
        obtain ⟨a, ha, ha2⟩ := i64_and_nat (cut / 4) 16 65535 (by decide) (by omega)
        have ha : bits .and .i64 (cut / 4) 65535 = (a : Int) := ha
        obtain ⟨k, hk, hkn⟩ : ∃ k : Nat, (a : Int).tmod n = (k : Int) ∧ k < n := ⟨a % n, (Int.ofNat_tmod a n).symm, Nat.mod_lt _ (by omega)⟩
        have HIn2 : Hid (BytesIn wr (.slice (some ⟨g, 0, none⟩) k c8) (bs.take k)) := Lib.hid (ByteRow.cut HIn.out (by rw [HBs.out]; omega))
        have HXs : Hid ((bs.take k).length ≤ 65536) := Lib.hid (by rw [List.length_take]; have := HXs.out; omega)
        go_wp2_with (refine wpList_cut_to rfl 47 (.tmp 99) (.tmp 105) rfl 1 Try.elemB Try.elemBs (some ⟨g, 0, none⟩) n c8 k rfl rfl (by omega) ?_)
        refine (decode_okP (bs.take k) wr _ HIn2.out (by have := HXs.out; omega)).mono ?_
        rintro e wa ⟨x, er, cs, rfl, hd, hat, hx⟩
        obtain ⟨p0, p1, p2, p3, p4, p5, p6, p7, p8, p9, pa, pb, rfl⟩ := hat.shape
        have HD := Lib.hid hd
        have HA := Lib.hid hat
        have HXa := Lib.hid hx
        clear hd hat hx
        go_wp2_with fail
        refine (decode_okR (bs.take k) _ _ (BytesIn.ext (HIn2.out) (HXa.out.alloc _)) (by have := HXs.out; omega)).mono ?_
        rintro e wb ⟨x', er', cs', rfl, hd, hat, hx⟩
        obtain ⟨rfl, rfl⟩ := hd.unique HD.out
        obtain ⟨q0, q1, q2, q3, q4, q5, q6, q7, q8, q9, qa, qb, rfl⟩ := hat.shape
        have hxc : Ext wa (wb.alloc (.cells [.int .i64 q0, .bool q1, .int .i64 q2, .string q3, .string q4, .string q5, .slice q6 q7 q8, .slice q9 qa qb].toArray 27)) := (((Ext.refl wa).alloc _).trans hx).alloc _
        have HBa := Lib.hid ((BoxAt.new wa 27 [.int .i64 p0, .bool p1, .int .i64 p2, .string p3, .string p4, .string p5, .slice p6 p7 p8, .slice p9 pa pb]).ext (hx.alloc (.cells [.int .i64 q0, .bool q1, .int .i64 q2, .string q3, .string q4, .string q5, .slice q6 q7 q8, .slice q9 qa qb].toArray 27)))
        have HBb := Lib.hid (BoxAt.new wb 27 [.int .i64 q0, .bool q1, .int .i64 q2, .string q3, .string q4, .string q5, .slice q6 q7 q8, .slice q9 qa qb])
        have HA1 := Lib.hid (HA.out.alike (Alike.of_ext hxc fun b hb => hb.2) |>.mono fun b hb => Nat.lt_of_lt_of_le hb.2 hxc.size)
        have HA2 := Lib.hid (hat.alike (Alike.of_ext ((Ext.refl wb).alloc (.cells [.int .i64 q0, .bool q1, .int .i64 q2, .string q3, .string q4, .string q5, .slice q6 q7 q8, .slice q9 qa qb].toArray 27)) fun b hb => hb.2) |>.mono fun b hb => Nat.lt_of_lt_of_le hb.2 ((Ext.refl wb).alloc (.cells [.int .i64 q0, .bool q1, .int .i64 q2, .string q3, .string q4, .string q5, .slice q6 q7 q8, .slice q9 qa qb].toArray 27)).size)
        have HXc := Lib.hid ((HXr.out.trans HXa.out).trans hxc)
        clear hd hat hx hxc HA HXa HD
        go_wp2_with (first | refine wpList_load_cells_g 27 (.tmp 19) rfl rfl wa.heap.size 0 rfl Try.agg27 Try.size27 rfl (HBa.out).2 ?_ | refine wpList_load_cells_g 27 (.tmp 21) rfl rfl wb.heap.size 0 rfl Try.agg27 Try.size27 rfl (HBb.out).2 ?_)
        refine (whole_ok _ _ _ (fun b => b < (wb.alloc (.cells [.int .i64 q0, .bool q1, .int .i64 q2, .string q3, .string q4, .string q5, .slice q6 q7 q8, .slice q9 qa qb].toArray 27)).heap.size) _ _ _ (Nat.le_refl _) (fun _ h => h) HA1.out HA2.out).mono ?_
        rintro e wc ⟨rfl, hx⟩
        have HXd := Lib.hid (HXc.out.trans hx)
        rw [eqB_true.2 rfl]
        clear hx HBa HBb HA1 HA2 HXc
        go_wp2_with fail
        go_ret
        exact ⟨rfl, HXd.out⟩
      · have t5 : ((m3 : Int) == 1) = false := by simp; omega
        clear hc1
        go_wp2_with fail
        refine (decode_okP bs wr _ HIn.out (by have := HXs.out; omega)).mono ?_
        rintro e wa ⟨x, er, cs, rfl, hd, hat, hx⟩
        obtain ⟨p0, p1, p2, p3, p4, p5, p6, p7, p8, p9, pa, pb, rfl⟩ := hat.shape
        have HD := Lib.hid hd
        have HA := Lib.hid hat
        have HXa := Lib.hid hx
        clear hd hat hx
        go_wp2_with fail
        refine (decode_okR bs _ _ (BytesIn.ext (HIn.out) (HXa.out.alloc _)) (by have := HXs.out; omega)).mono ?_
        rintro e wb ⟨x', er', cs', rfl, hd, hat, hx⟩
        obtain ⟨rfl, rfl⟩ := hd.unique HD.out
        obtain ⟨q0, q1, q2, q3, q4, q5, q6, q7, q8, q9, qa, qb, rfl⟩ := hat.shape
        have hxc : Ext wa (wb.alloc (.cells [.int .i64 q0, .bool q1, .int .i64 q2, .string q3, .string q4, .string q5, .slice q6 q7 q8, .slice q9 qa qb].toArray 27)) := (((Ext.refl wa).alloc _).trans hx).alloc _
        have HBa := Lib.hid ((BoxAt.new wa 27 [.int .i64 p0, .bool p1, .int .i64 p2, .string p3, .string p4, .string p5, .slice p6 p7 p8, .slice p9 pa pb]).ext (hx.alloc (.cells [.int .i64 q0, .bool q1, .int .i64 q2, .string q3, .string q4, .string q5, .slice q6 q7 q8, .slice q9 qa qb].toArray 27)))
        have HBb := Lib.hid (BoxAt.new wb 27 [.int .i64 q0, .bool q1, .int .i64 q2, .string q3, .string q4, .string q5, .slice q6 q7 q8, .slice q9 qa qb])
        have HA1 := Lib.hid (HA.out.alike (Alike.of_ext hxc fun b hb => hb.2) |>.mono fun b hb => Nat.lt_of_lt_of_le hb.2 hxc.size)
        have HA2 := Lib.hid (hat.alike (Alike.of_ext ((Ext.refl wb).alloc (.cells [.int .i64 q0, .bool q1, .int .i64 q2, .string q3, .string q4, .string q5, .slice q6 q7 q8, .slice q9 qa qb].toArray 27)) fun b hb => hb.2) |>.mono fun b hb => Nat.lt_of_lt_of_le hb.2 ((Ext.refl wb).alloc (.cells [.int .i64 q0, .bool q1, .int .i64 q2, .string q3, .string q4, .string q5, .slice q6 q7 q8, .slice q9 qa qb].toArray 27)).size)
        have HXc := Lib.hid ((HXr.out.trans HXa.out).trans hxc)
        clear hd hat hx hxc HA HXa HD
        go_wp2_with (first | refine wpList_load_cells_g 27 (.tmp 19) rfl rfl wa.heap.size 0 rfl Try.agg27 Try.size27 rfl (HBa.out).2 ?_ | refine wpList_load_cells_g 27 (.tmp 21) rfl rfl wb.heap.size 0 rfl Try.agg27 Try.size27 rfl (HBb.out).2 ?_)
        refine (whole_ok _ _ _ (fun b => b < (wb.alloc (.cells [.int .i64 q0, .bool q1, .int .i64 q2, .string q3, .string q4, .string q5, .slice q6 q7 q8, .slice q9 qa qb].toArray 27)).heap.size) _ _ _ (Nat.le_refl _) (fun _ h => h) HA1.out HA2.out).mono ?_
        rintro e wc ⟨rfl, hx⟩
        have HXd := Lib.hid (HXc.out.trans hx)
        rw [eqB_true.2 rfl]
        clear hx HBa HBb HA1 HA2 HXc
        go_wp2_with fail
        go_ret
        exact ⟨rfl, HXd.out⟩
end Go.Proofs.Ytpkgkabcikmopaa
