/-
  What the reference's order of values comes to: the same plain function as the program's. The conditions: none beyond each contract's own.
-/
import Derived.Test.YtpkgkabcikmopaaFew
namespace Go.Proofs.Ytpkgkabcikmopaa
open Go.RowKit

def cmpB (x y : UInt8) : Int := cmpI x.toNat y.toNat
theorem cmpL_lexL : ∀ a b : List UInt8, cmpL a b = lexL cmpB a b
  | [], [] => rfl
  | [], _ :: _ => rfl
  | _ :: _, [] => rfl
  | x :: r, y :: s => by
    simp only [cmpL, lexL, lex2, cmpB, cmpI, cmpL_lexL r s, UInt8.lt_iff_toNat_lt, Int.ofNat_lt]
    by_cases h1 : x.toNat < y.toNat
    · simp [h1]
    · by_cases h2 : y.toNat < x.toNat
      · simp [h1, h2]
      · simp [h1, h2]

theorem cmpS_lexL (a b : ByteArray) : cmpS a b = lexL cmpB a.data.toList b.data.toList := by rw [cmpS, cmpL_lexL, ByteArray.toList_eq, ByteArray.toList_eq]

theorem ints_ok (a b : Int) (w : World) : Calls Try.prog 42 #[.int .i64 a, .int .i64 b] w fun e w' => e = .returned (.int .i64 (cmpI a b)) ∧ w = w' := by
  go_enter Try.func42, Try.ntmps42
  go_wp2_with fail
  · go_ret
    have h : a < b := by assumption
    exact ⟨ret_int (by simp [cmpI, h]), rfl⟩
  · go_ret
    have h : b < a := by assumption
    exact ⟨ret_int (by rw [cmpI, if_neg (by omega), if_pos h]), rfl⟩
  · go_ret
    exact ⟨ret_int (by rw [cmpI, if_neg (by omega), if_neg (by omega)]), rfl⟩

set_option maxRecDepth 100000 in
set_option maxHeartbeats 400000 in
theorem texts_ok (a b : ByteArray) (w : World) (ha : a.size ≤ maxLen) (_hb : b.size ≤ maxLen) : Calls Try.prog 43 #[.string a, .string b] w fun e w' => e = .returned (.int .i64 (cmpS a b)) ∧ Ext w w' := by
  rw [maxLen_eq] at ha _hb
  have la : a.data.toList.length = a.size := by simp
  have lb : b.data.toList.length = b.size := by simp
  have La := Lib.hid la
  have Lb := Lib.hid lb
  clear la lb
  go_enter Try.func43, Try.ntmps43
  go_wp2_with fail
  go_loopw [5] (fun i wr => ∃ k : Nat, k ≤ a.size ∧ k ≤ b.size ∧ i = .int .i64 k ∧ Ext w wr ∧ Hid (∀ i x y, i < k → a.data.toList[i]? = some x → b.data.toList[i]? = some y → cmpB x y = 0)) (fun i _ => a.size - (intOf i).toNat)
  case atStart => exact ⟨0, Nat.zero_le _, Nat.zero_le _, rfl, Ext.refl w, fun _ _ _ h => by omega⟩
  case round =>
    obtain ⟨k, hk, hkm, rfl, hext, Hall⟩ := hrel
    have HX := Lib.hid hext
    clear hext
    by_cases hlt : k < a.size
    · by_cases hlm : k < b.size
      · have Hx := Lib.hid (show a.data.toList[k]? = some a[k] by rw [List.getElem?_eq_getElem (by simpa using hlt)]; rfl)
        have Hy := Lib.hid (show b.data.toList[k]? = some b[k] by rw [List.getElem?_eq_getElem (by simpa using hlm)]; rfl)
        go_wp2_with fail
        refine region_later (by kernel_rfl) (by kernel_rfl) ?_
        repeat (quiet_step (fail))
        refine wpQuiet_nil ?_
        intro w2 hw2
        have HX2 := Lib.hid hw2
        clear hw2
        go_wp2_with fail
        · have hne : ((a[k].toNat : Int) != b[k].toNat) = true := by assumption
          refine region_later (by kernel_rfl) (by kernel_rfl) ?_
          repeat (quiet_step (fail))
          refine wpQuiet_nil ?_
          intro w3 hw3
          have HX3 := Lib.hid hw3
          clear hw3
          go_wp2_with fail
          · have hl : (a[k].toNat : Int) < b[k].toNat := by first | assumption | omega | (have h : a[k] < b[k] := by assumption; rw [UInt8.lt_iff_toNat_lt] at h; omega)
            go_ret
            exact ⟨ret_int (by
              have h1 : cmpB a[k] b[k] = -1 := by rw [cmpB, cmpI, if_pos hl]
              rw [cmpS_lexL, lexL_at Hx.out Hy.out Hall.out (by rw [h1]; omega), h1]), (HX.out.trans HX2.out).trans HX3.out⟩
          · have hl : ¬ (a[k].toNat : Int) < b[k].toNat := by first | assumption | omega | (have h : ¬ a[k] < b[k] := by assumption; rw [UInt8.lt_iff_toNat_lt] at h; omega) | (have h : b[k] ≤ a[k] := by assumption; rw [UInt8.le_iff_toNat_le] at h; omega)
            go_ret
            exact ⟨ret_int (by
              have h1 : cmpB a[k] b[k] = 1 := by
                rw [cmpB, cmpI, if_neg hl, if_pos]
                have : (a[k].toNat : Int) ≠ b[k].toNat := by simpa only [bne_iff_ne] using hne
                omega
              rw [cmpS_lexL, lexL_at Hx.out Hy.out Hall.out (by rw [h1]; omega), h1]), (HX.out.trans HX2.out).trans HX3.out⟩
        · have hne : ((a[k].toNat : Int) != b[k].toNat) = false := by assumption
          go_roundw
          case rel => exact ⟨k + 1, by omega, by omega, by go_num, HX.out.trans HX2.out, fun i p q hi hp hq => by
            by_cases hik : i = k
            · subst hik; rw [Hx.out] at hp; rw [Hy.out] at hq; cases hp; cases hq
              have : (a[i].toNat : Int) = b[i].toNat := by simpa only [bne_eq_false_iff_eq] using hne
              rw [cmpB, cmpI, if_neg (by omega), if_neg (by omega)]
            · exact Hall.out i p q (by omega) hp hq⟩
          case measure => simp [intOf]; omega
      · have hke : k = b.size := by omega
        subst hke
        go_wp2_with (go_at_call 42; refine (ints_ok _ _ _).mono ?_; rintro e w' ⟨rfl, rfl⟩)
        go_ret
        exact ⟨ret_int (by rw [cmpS_lexL, lexL_long (by rw [La.out, Lb.out]; omega) (by rw [Lb.out]; exact Hall.out), cmpI, if_neg (by omega), if_pos (by omega)]), HX.out⟩
    · have hke : k = a.size := by omega
      subst hke
      go_wp2_with (go_at_call 42; refine (ints_ok _ _ _).mono ?_; rintro e w' ⟨rfl, rfl⟩)
      go_ret
      exact ⟨ret_int (by
        rw [cmpS_lexL, lexL_end (by rw [La.out, Lb.out]; omega) (by rw [La.out]; exact Hall.out), La.out, Lb.out, cmpI]
        by_cases h : a.size < b.size
        · rw [if_pos (by omega), if_pos h]
        · rw [if_neg (by omega), if_neg (by omega), if_neg h]), HX.out⟩

theorem namedR_ok (k : Int) (bo : Bool) (n : Int) (t ut ui : ByteArray) (A A2 : Option Addr) (cap cap2 l l2 : Nat) (w : World) (hl : l ≤ cap) (_hc : cap ≤ maxLen) (hl2 : l2 ≤ maxLen) :
    Calls Try.prog 45 #[.agg #[.int .i64 k, .bool bo, .int .i64 n, .string t, .string ut, .string ui, .slice A l cap, .slice A2 l2 cap2]] w fun e w' =>
      e = .returned (.slice A (min l l2) cap) ∧ Ext w w' := by
  unfold maxLen at *
  go_enter Try.func45, Try.ntmps45
  go_wp2
  · go_ret
    have h : l2 < l := by omega
    rw [Nat.min_eq_right (by omega)]
    exact ⟨rfl, (Ext.refl w).alloc _⟩
  · go_ret
    have h : ¬ l2 < l := by omega
    rw [Nat.min_eq_left (by omega)]
    exact ⟨rfl, (Ext.refl w).alloc _⟩

set_option maxRecDepth 100000 in
set_option maxHeartbeats 800000 in
theorem rows_ok (S : Nat → Prop) (l m : List Val) (v v' : Value) (w : World) (hS : ∀ b, S b → b < w.heap.size) (hl : ValsAt S w l v) (hm : ValsAt S w m v')
    (hc : ∀ x ∈ l, ∀ y ∈ m, ∀ (w1 : World) (cx cy : List Value), (∀ b, S b → b < w1.heap.size) → Val.At S w1 x cx → Val.At S w1 y cy →
      Calls Try.prog 21 #[.agg cx.toArray, .agg cy.toArray] w1 fun e w' => e = .returned (.int .i64 (x.ord y)) ∧ Ext w1 w') :
    Calls Try.prog 44 #[v, v'] w fun e w' => e = .returned (.int .i64 (lexL Val.ord l m)) ∧ Ext w w' := by
  obtain ⟨A, cap, rfl, ⟨hl0, hl1, hl2⟩, hlr⟩ := hl
  obtain ⟨B, cap', rfl, ⟨hm0, hm1, hm2⟩, hmr⟩ := hm
  rw [LIM_eq] at hl0 hm0
  rw [maxLen_eq] at hl2 hm2
  have HS := Lib.hid hS
  have HC := Lib.hid hc
  have HL := Lib.hid hlr
  have HM := Lib.hid hmr
  clear hS hc hlr hmr
  go_enter Try.func44, Try.ntmps44
  go_wp2_with fail
  go_loopw [5] (fun i wr => ∃ k : Nat, k ≤ l.length ∧ k ≤ m.length ∧ i = .int .i64 k ∧ Ext w wr ∧ Hid (∀ i x y, i < k → l[i]? = some x → m[i]? = some y → x.ord y = 0)) (fun i _ => l.length - (intOf i).toNat)
  case atStart => exact ⟨0, Nat.zero_le _, Nat.zero_le _, rfl, Ext.refl w, fun _ _ _ h => by omega⟩
  case round =>
    obtain ⟨k, hk, hkm, rfl, hext, Hall⟩ := hrel
    have HX := Lib.hid hext
    have HSr := Lib.hid (show ∀ b, S b → b < wr.heap.size from fun b hb => Nat.lt_of_lt_of_le (HS.out b hb) hext.size)
    clear hext
    by_cases hlt : k < l.length
    · obtain ⟨b, o, rfl, hSb, hrow⟩ := HL.out (by omega)
      obtain ⟨x, hx⟩ : ∃ x, l[k]? = some x := ⟨_, List.getElem?_eq_getElem hlt⟩
      obtain ⟨cs, hcl, hca, hxa⟩ := hrow.get hx
      have Hca := Lib.hid (hca.alike hSb (Alike.of_ext HX.out HS.out))
      have Hxa := Lib.hid (hxa.alike (Alike.of_ext HX.out HS.out))
      have Hx := Lib.hid hx
      clear hx hxa hca hrow hcl hSb
      by_cases hlm : k < m.length
      · obtain ⟨b', o', rfl, hSb', hrow'⟩ := HM.out (by omega)
        obtain ⟨y, hy⟩ : ∃ y, m[k]? = some y := ⟨_, List.getElem?_eq_getElem hlm⟩
        obtain ⟨cs', hcl', hca', hya⟩ := hrow'.get hy
        have Hcb := Lib.hid (hca'.alike hSb' (Alike.of_ext HX.out HS.out))
        have Hyb := Lib.hid (hya.alike (Alike.of_ext HX.out HS.out))
        have Hy := Lib.hid hy
        clear hy hya hca' hrow' hcl' hSb'
        obtain ⟨k1, b1, n1, t1, ut1, ui1, A1, l1, c1, A2, l2, c2, rfl⟩ := Hxa.out.shape
        obtain ⟨k3, b3, n3, t3, ut3, ui3, A3, l3, c3, A4, l4, c4, rfl⟩ := Hyb.out.shape
        have f0 := cell_regrown (show wr.cell? ⟨b, o + k * 8, none⟩ = some (.int .i64 k1) by simpa using Hca.out 0 _ rfl)
        have f1 := cell_regrown (show wr.cell? ⟨b, o + k * 8 + 1, none⟩ = some (.bool b1) by simpa using Hca.out 1 _ rfl)
        have f2 := cell_regrown (show wr.cell? ⟨b, o + k * 8 + 2, none⟩ = some (.int .i64 n1) by simpa using Hca.out 2 _ rfl)
        have f3 := cell_regrown (show wr.cell? ⟨b, o + k * 8 + 3, none⟩ = some (.string t1) by simpa using Hca.out 3 _ rfl)
        have f4 := cell_regrown (show wr.cell? ⟨b, o + k * 8 + 4, none⟩ = some (.string ut1) by simpa using Hca.out 4 _ rfl)
        have f5 := cell_regrown (show wr.cell? ⟨b, o + k * 8 + 5, none⟩ = some (.string ui1) by simpa using Hca.out 5 _ rfl)
        have f6 := cell_regrown (show wr.cell? ⟨b, o + k * 8 + 6, none⟩ = some (.slice A1 l1 c1) by simpa using Hca.out 6 _ rfl)
        have f7 := cell_regrown (show wr.cell? ⟨b, o + k * 8 + 7, none⟩ = some (.slice A2 l2 c2) by simpa using Hca.out 7 _ rfl)
        have g0 := cell_regrown (show wr.cell? ⟨b', o' + k * 8, none⟩ = some (.int .i64 k3) by simpa using Hcb.out 0 _ rfl)
        have g1 := cell_regrown (show wr.cell? ⟨b', o' + k * 8 + 1, none⟩ = some (.bool b3) by simpa using Hcb.out 1 _ rfl)
        have g2 := cell_regrown (show wr.cell? ⟨b', o' + k * 8 + 2, none⟩ = some (.int .i64 n3) by simpa using Hcb.out 2 _ rfl)
        have g3 := cell_regrown (show wr.cell? ⟨b', o' + k * 8 + 3, none⟩ = some (.string t3) by simpa using Hcb.out 3 _ rfl)
        have g4 := cell_regrown (show wr.cell? ⟨b', o' + k * 8 + 4, none⟩ = some (.string ut3) by simpa using Hcb.out 4 _ rfl)
        have g5 := cell_regrown (show wr.cell? ⟨b', o' + k * 8 + 5, none⟩ = some (.string ui3) by simpa using Hcb.out 5 _ rfl)
        have g6 := cell_regrown (show wr.cell? ⟨b', o' + k * 8 + 6, none⟩ = some (.slice A3 l3 c3) by simpa using Hcb.out 6 _ rfl)
        have g7 := cell_regrown (show wr.cell? ⟨b', o' + k * 8 + 7, none⟩ = some (.slice A4 l4 c4) by simpa using Hcb.out 7 _ rfl)
        go_wp2_with fail
        refine region_later (by kernel_rfl) (by kernel_rfl) ?_
        repeat (quiet_step ((go_at_call 21; exact later_call (fun w1 hw1 => HC.out x (List.mem_of_getElem? Hx.out) y (List.mem_of_getElem? Hy.out) w1 [_, _, _, _, _, _, _, _] [_, _, _, _, _, _, _, _] (fun b hb => Nat.lt_of_lt_of_le (HSr.out b hb) hw1.size) (Hxa.out.alike (Alike.of_ext hw1 HSr.out)) (Hyb.out.alike (Alike.of_ext hw1 HSr.out))) _ _)))
        refine wpQuiet_nil ?_
        intro w2 hw2
        have HX2 := Lib.hid hw2
        clear hw2 f0 f1 f2 f3 f4 f5 f6 f7 g0 g1 g2 g3 g4 g5 g6 g7
        go_wp2_with fail
        · have hne : (x.ord y != 0) = true := by assumption
          go_ret
          exact ⟨ret_int (lexL_at Hx.out Hy.out Hall.out (by simpa using hne)).symm, HX.out.trans HX2.out⟩
        · have hne : (x.ord y != 0) = false := by assumption
          go_roundw
          case rel => exact ⟨k + 1, by omega, by omega, by go_num, HX.out.trans HX2.out, fun i p q hi hp hq => by
            by_cases hik : i = k
            · subst hik; rw [Hx.out] at hp; rw [Hy.out] at hq; cases hp; cases hq; simpa using hne
            · exact Hall.out i p q (by omega) hp hq⟩
          case measure => simp [intOf]; omega
      · have hke : k = m.length := by omega
        subst hke
        go_wp2_with (go_at_call 42; refine (ints_ok _ _ _).mono ?_; rintro e w' ⟨rfl, rfl⟩)
        go_ret
        exact ⟨ret_int (by rw [lexL_long (by omega) Hall.out, cmpI, if_neg (by omega), if_pos (by omega)]), HX.out⟩
    · have hke : k = l.length := by omega
      subst hke
      go_wp2_with (go_at_call 42; refine (ints_ok _ _ _).mono ?_; rintro e w' ⟨rfl, rfl⟩)
      go_ret
      exact ⟨ret_int (by
        rw [lexL_end (by omega) Hall.out, cmpI]
        by_cases h : l.length < m.length
        · rw [if_pos (by omega), if_pos h]
        · rw [if_neg (by omega), if_neg (by omega), if_neg h]), HX.out⟩

end Go.Proofs.Ytpkgkabcikmopaa
