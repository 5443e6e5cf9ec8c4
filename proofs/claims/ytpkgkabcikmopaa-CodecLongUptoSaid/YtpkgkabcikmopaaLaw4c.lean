/-
  The walk of layer 4's law CodecLong: it answers true. The conditions: none.
-/
import Derived.Test.YtpkgkabcikmopaaAwake4
import Derived.Test.YtpkgkabcikmopaaAwake3
namespace Go.Proofs.Ytpkgkabcikmopaa
open Go.RowKit

theorem i64_and63 (n : Int) : bits .and .i64 n 63 = n % 64 := by
  have h63 : (BitVec.ofInt 64 63).toNat = 2 ^ 6 - 1 := by decide
  have key : (BitVec.ofInt 64 n &&& BitVec.ofInt 64 63).toNat = (n % ((2 ^ 64 : Nat) : Int)).toNat % 2 ^ 6 := by
    rw [BitVec.toNat_and, BitVec.toNat_ofInt, h63, Nat.and_two_pow_sub_one_eq_mod]
  show IntKind.i64.wrap ((BitVec.ofInt 64 n &&& BitVec.ofInt 64 63).toNat : Nat) = n % 64
  rw [key, IntKind.wrap_i64]
  omega
def textV (s : ByteArray) : Val := .mk 3 false 0 s empty empty [] []
def textC (s : ByteArray) : List Value := [.int .i64 3, .bool false, .int .i64 0, .string s, .string ByteArray.empty, .string ByteArray.empty, .slice none 0 0, .slice none 0 0]
def falseC : List Value := [.int .i64 1, .bool false, .int .i64 0, .string ByteArray.empty, .string ByteArray.empty, .string ByteArray.empty, .slice none 0 0, .slice none 0 0]
def falseV : Val := .mk 1 false 0 empty empty empty [] []
theorem textV_is (s : ByteArray) : (textV s).Is := by unfold textV Val.Is; exact .inr (.inr (.inl ⟨rfl, rfl, rfl, rfl, rfl, rfl, rfl⟩))
theorem falseV_is : falseV.Is := by unfold falseV Val.Is; exact .inl ⟨rfl, rfl, rfl, rfl, rfl, rfl, rfl⟩
theorem textV_good {s : ByteArray} (h : s.size < 4294967296) : (textV s).Good := by
  refine ⟨textV_is s, ?_, by simp [textV, Val.dep]⟩
  unfold textV Val.Fit
  exact ⟨⟨by omega, by omega⟩, h, by decide, by decide, by simp, by simp, by simp [Val.Fits]⟩
theorem textV_bytes {s : ByteArray} (h : s.size < 4294967296) : (65536 < s.size + 5 ∧ (textV s).bytes = ([], 12)) ∨ (¬ 65536 < s.size + 5 ∧ (textV s).bytes = ((textV s).enc, 0)) := by
  have hl : (textV s).enc.length = s.size + 5 := by unfold textV; rw [Val.enc_3, List.length_cons, txt_length]; omega
  unfold Val.bytes
  rw [(textV_good h).canon]
  simp only [ne_eq, not_true, if_false, hl]
  by_cases h2 : 65536 < s.size + 5
  · exact .inl ⟨h2, by rw [if_pos h2]⟩
  · exact .inr ⟨h2, by rw [if_neg h2]⟩
theorem setV_two (s : ByteArray) : (Val.setV [textV s, falseV]).canon = (Val.setV [falseV, textV s], 0) := by
  have h1 := Val.can_of_is (textV_is s)
  have h2 := Val.can_of_is falseV_is
  have hc : Val.cans [textV s, falseV] = ([textV s, falseV], 0) := by simp [Val.cans, h1, h2]
  have ho : Val.ord (textV s) falseV = 1 := by unfold textV falseV; rw [Val.ord_mk]; simp [cmpI]
  have hs : sortU Val.ord [textV s, falseV] = [falseV, textV s] := by simp [sortU, ins, ho]
  unfold Val.canon
  rw [if_neg (by simp [Val.setV, Val.dep, Val.deps, textV, falseV])]
  unfold Val.setV
  rw [Val.can5, hc, hs]
  simp [empty]
theorem setV_bytes (s : ByteArray) : (65536 < s.size + 12 ∧ (Val.setV [textV s, falseV]).bytes.2 = 12) ∨ (¬ 65536 < s.size + 12 ∧ (Val.setV [textV s, falseV]).bytes.2 = 0) := by
  have hl : (Val.setV [falseV, textV s]).enc.length = s.size + 12 := by
    unfold Val.setV
    rw [Val.enc_5]
    simp only [Val.encs, Bool.false_eq_true, if_false, List.nil_append, List.append_nil]
    unfold falseV textV
    rw [Val.enc_1, Val.enc_3]
    simp only [List.length_cons, List.length_append, be4_length, txt_length, List.length_nil]
    omega
  unfold Val.bytes
  rw [setV_two s]
  simp only [ne_eq, not_true, if_false, hl]
  by_cases h2 : 65536 < s.size + 12
  · exact .inl ⟨h2, by rw [if_pos h2]⟩
  · exact .inr ⟨h2, by rw [if_neg h2]⟩
theorem zeroBytes_in {w : World} {g n : Nat} (h : w.heap[g]? = some (.cells (Array.replicate n (Value.int .u8 0)) 5 (0, 0))) (hn : n ≤ 1048576) : BytesIn w (.slice (some ⟨g, 0, none⟩) n n) (List.replicate n 0) := by
  refine ⟨some ⟨g, 0, none⟩, n, by rw [List.length_replicate], by rw [List.length_replicate]; exact Nat.le_refl _, by omega, fun _ => ⟨g, 0, rfl, Blk_lt h, fun j v hj => ?_⟩⟩
  rw [cell_of_row _ _ _ _ _ _ h, Nat.zero_add]
  unfold cellsB at hj
  rw [List.getElem?_map, List.getElem?_replicate] at hj
  split at hj
  · rename_i hlt
    simp at hj; subst hj
    simp [hlt]
  · cases hj

set_option maxRecDepth 100000 in
set_option maxHeartbeats 1600000 in
theorem codecLong_walk (n : Int) (w : World) : Calls Try.prog 12 #[.int .i64 n] w fun e w' => e = .returned (.bool true) ∧ Ext w w' := by
  go_enter Try.func12, Try.ntmps12
  go_wp2_with fail
  refine (awake4_ok _).mono ?_
  rintro e w1 ⟨rfl, hx1⟩
  have HX1 := Lib.hid hx1
  clear hx1
  obtain ⟨K, hK, hK2⟩ : ∃ K : Nat, bits .and .i64 n 63 = (K : Int) ∧ K ≤ 63 := ⟨(n % 64).toNat, by rw [i64_and63]; omega, by omega⟩
  have hk : IntKind.i64.wrap (65500 + (K : Int)) = ((65500 + K : Nat) : Int) := by rw [show (65500 : Int) + K = ((65500 + K : Nat) : Int) by omega]; exact IntWalk.i64_in _ (by omega)
  obtain ⟨k, hke⟩ : ∃ k, k = 65500 + K := ⟨_, rfl⟩
  rw [← hke] at hk
  have hk1 : 65500 ≤ k := by omega
  have hk2 : k ≤ 65563 := by omega
  have he : (65500 : Int) + K = (k : Int) := by omega
  have HKe := Lib.hid hke
  clear hke
  go_wp2_with (at_make; refine wpList_make_bytes rfl _ _ rfl k (by first | rfl | exact congrArg _ he) (by first | rfl | exact congrArg _ he) (by omega) ?_)
  intro w2 hz2 hx2
  have hin := zeroBytes_in hz2 (by omega)
  obtain ⟨A2, c2, e2, _, _, hs2⟩ := hin
  obtain ⟨zs, hzs⟩ : ∃ zs, zs = List.replicate k (0 : UInt8) := ⟨_, rfl⟩
  have hzl : zs.length = k := by rw [hzs, List.length_replicate]
  rw [← hzs] at e2 hs2
  rw [hzl] at e2
  injection e2 with e2 _ e3
  subst e2 e3
  have hsrc : SrcAt w2 (some ⟨w1.heap.size, 0, none⟩) zs.length (cellsB zs) := fun h0 => by
    obtain ⟨b, of, e, _, hc⟩ := hs2 h0
    exact ⟨b, of, e, hc⟩
  have HSrc := Lib.hid hsrc
  have HX2 := Lib.hid (HX1.out.trans hx2)
  have HZl := Lib.hid hzl
  obtain ⟨s, hs⟩ : ∃ s, s = strOf zs := ⟨_, rfl⟩
  have hsz : s.size = k := by rw [hs, strOf_size, hzl]
  have HSz := Lib.hid hsz
  have HS := Lib.hid hs
  clear hz2 hx2 hs2 hzs hzl hsrc hsz hs
  go_wp2_with (refine wpList_str rfl (.tmp 21) rfl (some ⟨w1.heap.size, 0, none⟩) k zs (by rw [HZl.out]; rfl) HSrc.out ?_; rw [← HS.out])
  have hE1 := encode_okP (textV s) (fun _ => False) w2 [.int .i64 3, .bool false, .int .i64 0, .string s, .string ByteArray.empty, .string ByteArray.empty, .slice none 0 0, .slice none 0 0] (by simp [textV, Val.dep]) (by simp [textV, Val.mass, Val.masses, nameSum, empty]; have := HSz.out; omega) (fun _ h => h.elim) (Val.plain_at _ _ _ _ _ _ _ _ (by constructor <;> omega) (by constructor <;> omega) (by rw [maxLen_eq]; have := HSz.out; omega) empty_le empty_le)
  have hb := textV_bytes (s := s) (by have := HSz.out; omega)
  rw [HSz.out] at hb
  rcases hb with ⟨hk3, hb⟩ | ⟨hk3, hb⟩
  · rw [hb] at hE1
    have t1 : decide ((65536 : Int) < (k : Int) + 5) = true := by simp; omega
    clear hk3 hb
    refine hE1.mono ?_
    clear hE1
    rintro e w3 ⟨o3, rfl, hrow, hx⟩
    obtain ⟨A3, c3, rfl, _, _, _⟩ := hrow.shape
    have HX3 := Lib.hid (HX2.out.trans hx)
    clear hrow hx
    go_wp2_with fail
    go_ret
    exact ⟨rfl, HX3.out⟩
  · rw [hb] at hE1
    have t1 : decide ((65536 : Int) < (k : Int) + 5) = false := by simp; omega
    clear hb
    have hel : (textV s).enc.length = k + 5 := by unfold textV; rw [Val.enc_3, List.length_cons, txt_length, HSz.out]; omega
    have hdg := DecIs.good (textV_good (s := s) (by rw [HSz.out]; omega)) (by rw [hel]; omega)
    have hsb := setV_bytes s
    rw [HSz.out] at hsb
    obtain ⟨eb, heb⟩ : ∃ eb, eb = (textV s).enc := ⟨_, rfl⟩
    rw [← heb] at hE1 hel hdg
    have HDg := Lib.hid hdg
    have HEl := Lib.hid hel
    have HSb := Lib.hid hsb
    have HK3 := Lib.hid hk3
    clear hk3 heb hdg hel hsb
    refine hE1.mono ?_
    clear hE1
    rintro e w3 ⟨o3, rfl, hrow, hx⟩
    have hin := hrow.isIn
    obtain ⟨A3, c3, rfl, _, _, _⟩ := hrow.shape
    have HX3 := Lib.hid (HX2.out.trans hx)
    have HIn := Lib.hid hin
    clear hrow hx hin
    have hel2 : (eb.length : Int) = (k : Int) + 5 := by rw [HEl.out]; omega
    go_wp2_with fail
    refine (decode_okP eb w3 _ HIn.out (by rw [HEl.out]; omega)).mono ?_
    rintro e w4 ⟨v, er, cs, rfl, hd, hat, hx⟩
    obtain ⟨rfl, rfl⟩ := hd.unique HDg.out
    unfold textV Val.At at hat
    obtain ⟨A4, c4, nv, rfl, _, _, _, A5, c5, rfl, _⟩ := hat
    have HX4 := Lib.hid ((HX3.out.trans hx).alloc (.cells #[.int .i64 3, .bool false, .int .i64 0, .string s, .string empty, .string empty, .slice A4 ([] : List Val).length c4, .slice A5 ([] : List ByteArray).length c5] 27))
    have HBx := Lib.hid (BoxAt.new w4 27 [.int .i64 3, .bool false, .int .i64 0, .string s, .string empty, .string empty, .slice A4 0 c4, .slice A5 0 c5])
    clear hd hx
    go_wp2_with fail
    have hE2 := encode_okP (Val.setV [textV s, falseV]) (fun b => b = w4.heap.size + 1) ((w4.alloc (.cells #[.int .i64 3, .bool false, .int .i64 0, .string s, .string empty, .string empty, .slice A4 0 c4, .slice A5 0 c5] 27)).alloc (.cells (textC s ++ falseC).toArray 27)) [.int .i64 5, .bool false, .int .i64 0, .string ByteArray.empty, .string ByteArray.empty, .string ByteArray.empty, .slice (some ⟨w4.heap.size + 1, 0, none⟩) 2 2, .slice none 0 0]
      (by simp [Val.setV, Val.dep, Val.deps, textV, falseV]) (by simp [Val.setV, textV, falseV, Val.mass, Val.masses, nameSum, empty]; have := HSz.out; omega) (fun b hb => by subst hb; simp)
      (Val.set_at (vals_at_flat (xs := textC s ++ falseC) rfl (cellsAt_new _ _ (by simp)) ⟨textC s, _, rfl, Val.plain_at _ _ _ _ _ _ _ _ (by constructor <;> omega) (by constructor <;> omega) (by rw [maxLen_eq]; have := HSz.out; omega) empty_le empty_le, falseC, [], by simp, Val.plain_at _ _ _ _ _ _ _ _ (by constructor <;> omega) (by constructor <;> omega) empty_le empty_le empty_le, rfl⟩ (by simp [LIM]) (by simp) (by rw [maxLen_eq]; omega)))
    obtain ⟨⟨qb, qe⟩, hq⟩ : ∃ r, r = (Val.setV [textV s, falseV]).bytes := ⟨_, rfl⟩
    have hsb := HSb.out
    rw [← hq] at hE2 hsb
    simp only at hsb
    have HSb2 := Lib.hid hsb
    clear hq hsb HSb
    refine hE2.mono ?_
    clear hE2
    rintro e w5 ⟨o5, rfl, hrow, hx⟩
    obtain ⟨A6, c6, rfl, _, _, _⟩ := hrow.shape
    have hx5 := ((Ext.refl (w4.alloc (.cells #[.int .i64 3, .bool false, .int .i64 0, .string s, .string empty, .string empty, .slice A4 0 c4, .slice A5 0 c5] 27))).alloc (.cells (textC s ++ falseC).toArray 27)).trans hx
    have HBx5 := Lib.hid (HBx.out.ext hx5)
    have HX5 := Lib.hid (HX4.out.trans hx5)
    clear hrow hx hx5 HBx HX4
    go_wp2_with (at_make; refine wpList_make_bytes rfl _ _ rfl 65537 rfl rfl (by omega) ?_; intro w6 hz6 hx6; have HZ6 := Lib.hid hz6; have HX6 := Lib.hid hx6; clear hz6 hx6)
    refine (decode_okP (List.replicate 65537 0) w6 _ (zeroBytes_in HZ6.out (by omega)) (by rw [List.length_replicate]; omega)).mono ?_
    rintro e w7 ⟨v, er, cs, rfl, hd, hat, hx⟩
    have hu := hd.unique (.inl ⟨by rw [List.length_replicate]; omega, rfl, rfl⟩ : DecIs (List.replicate 65537 0) .zero 12)
    obtain ⟨rfl, rfl⟩ := hu
    obtain ⟨z0, z1, z2, z3, z4, z5, z6, z7, z8, z9, za, zb, rfl⟩ := hat.shape
    have hx7 := (HX6.out.trans hx).alloc (.cells #[.int .i64 z0, .bool z1, .int .i64 z2, .string z3, .string z4, .string z5, .slice z6 z7 z8, .slice z9 za zb] 27)
    obtain ⟨d0, d1, d2, d3, d4, d5, d6, d7⟩ := (HBx5.out.ext hx7).cells
    have HX7 := Lib.hid (HX5.out.trans hx7)
    clear hd hat hx hx7 d0 d1 d2 d4 d5 d6 d7
    rcases HSb2.out with ⟨h12, hq⟩ | ⟨h12, hq⟩
    · have t2 : decide ((k : Int) + 5 + 5 + 2 ≤ 65536) = false := by simp; omega
      subst hq
      clear h12
      go_wp2_with fail
      go_ret
      exact ⟨by simp, HX7.out⟩
    · have t2 : decide ((k : Int) + 5 + 5 + 2 ≤ 65536) = true := by simp; omega
      subst hq
      clear h12
      go_wp2_with fail
      go_ret
      exact ⟨by simp, HX7.out⟩
end Go.Proofs.Ytpkgkabcikmopaa
