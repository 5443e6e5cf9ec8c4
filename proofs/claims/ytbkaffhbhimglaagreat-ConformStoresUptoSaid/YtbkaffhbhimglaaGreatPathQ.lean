/-
  The document's names and paths: they are told without fail, and nothing is turned. The conditions: the text's length is one that memory has.
-/
import Derived.Test.YtbkaffhbhimglaaGreatGd
namespace Go.Proofs.YtbkaffhbhimglaaGreat
open Go.RowKit
open Lib renaming hid → q_
set_option maxHeartbeats 800000
set_option maxRecDepth 100000
theorem digit02_ok (c : Int) (w : World) : Calls Tryz.prog 75 #[.int .u8 c] w (zcm (fun _ => True) w) := by
 by_cases h2 : 48 ≤ c
 all_goals
  go_enter Tryz.func75, Tryz.ntmps75
  go_wp2_with fail
  go_ret
  exact ⟨_, trivial, rfl, Ext.refl w⟩
theorem letter02_ok (c : Int) (w : World) : Calls Tryz.prog 76 #[.int .u8 c] w (zcm (fun _ => True) w) := by
 by_cases h2 : 97 ≤ c <;> by_cases h3 : c ≤ 122 <;> by_cases h4 : 65 ≤ c <;> by_cases h5 : c ≤ 90
 all_goals first
  | (exfalso; omega)
  | (
    go_enter Tryz.func76, Tryz.ntmps76
    go_wp2_with fail
    go_ret
    exact ⟨_, trivial, rfl, Ext.refl w⟩)
theorem name02_ok (s : ByteArray) (w : World) (hs : s.size ≤ maxLen) : Calls Tryz.prog 43 #[.string s] w (zcm (fun _ => True) w) := by
 rw [zab] at hs
 by_cases h0 : s.size = 0
 ·have e0 : ((s.size : Int) == 0) = true := by simp [h0]
  clear h0
  go_enter Tryz.func43, Tryz.ntmps43
  go_wp2_with fail
  go_ret
  exact ⟨_, trivial, rfl, Ext.refl w⟩
 ·have e0 : ((s.size : Int) == 0) = false := by simpa using h0
  have hp : 0 < s.size := by omega
  clear h0
  go_enter Tryz.func43, Tryz.ntmps43
  go_wp2_with fail
  refine (digit02_ok _ _).mono ?_
  rintro e w1 ⟨b, _, rfl, hx⟩
  have HX1 := q_ hx
  clear hx
  cases b with
  | true =>
   go_wp2_with fail
   go_ret
   exact ⟨_, trivial, rfl, HX1.out⟩
  | false =>
   go_wp2_with fail
   clear e0
   go_loopw [3] (fun i' wr => ∃ k : Nat, k ≤ s.size ∧ i' = .int .i64 k ∧ Hid (Ext w wr)) (fun i' _ => s.size - (intOf i').toNat)
   case atStart => exact ⟨0, Nat.zero_le _, rfl, HX1⟩
   case round =>
    clear HX1
    obtain ⟨k, hk, rfl, HX⟩ := hrel
    by_cases hlt : k < s.size
    ·go_wp2_with fail
     refine (letter02_ok _ _).mono ?_
     rintro e w2 ⟨b, _, rfl, hx⟩
     have HX2 := q_ (HX.out.trans hx)
     clear hx
     cases b with
     | true =>
      go_wp2_with fail
      go_roundw
      case rel => exact ⟨k + 1, by omega, by go_num, HX2⟩
      case measure => simp [intOf]; omega
     | false =>
      go_wp2_with fail
      refine (digit02_ok _ _).mono ?_
      rintro e w3 ⟨b, _, rfl, hx⟩
      have HX3 := q_ (HX2.out.trans hx)
      clear hx
      cases b with
      | true =>
       go_wp2_with fail
       go_roundw
       case rel => exact ⟨k + 1, by omega, by go_num, HX3⟩
       case measure => simp [intOf]; omega
      | false =>
       go_wp2_with fail
       go_ret
       exact ⟨_, trivial, rfl, HX3.out⟩
    ·go_wp2_with fail
     go_ret
     exact ⟨_, trivial, rfl, HX.out⟩
theorem extract_le (s : ByteArray) (a b : Nat) (hs : s.size ≤ maxLen) : (s.extract a b).size ≤ maxLen := by
 have : (s.extract a b).size ≤ s.size := by simp [ByteArray.size_extract]; omega
 omega
theorem path02_ok (s : ByteArray) (w : World) (hs : s.size ≤ maxLen) : Calls Tryz.prog 20 #[.string s] w (zcm (fun _ => True) w) := by
 have Hs := q_ hs
 rw [zab] at hs
 go_enter Tryz.func20, Tryz.ntmps20
 go_wp2_with fail
 go_loopw [3, 4] (fun f' i' wr => ∃ k j : Nat, k ≤ s.size - 1 ∧ j ≤ s.size ∧ i' = .int .i64 k ∧ f' = .int .i64 j ∧ Hid (Ext w wr)) (fun _ i' _ => s.size - (intOf i').toNat)
 case atStart => exact ⟨0, 0, Nat.zero_le _, Nat.zero_le _, rfl, rfl, q_ (Ext.refl w)⟩
 case round =>
  obtain ⟨k, j, hk, hj, rfl, rfl, HX⟩ := hrel
  by_cases hlt : k + 1 < s.size
  ·have hlt' : k < s.size := by omega
   by_cases hjk : j ≤ k
   ·cases h1 : ((s[k].toNat : Int) == 58) with
    | false =>
     go_wp2_with fail
     go_roundw
     case rel => exact ⟨k + 1, j, by omega, hj, by go_num, rfl, HX⟩
     case measure => simp [intOf]; omega
    | true =>
     have hI : ((k : Int) + 1) < (s.size : Int) := by omega
     have hI0 : (0 : Int) ≤ (k : Int) + 1 := by omega
     have hI1 : ((k : Int) + 1).toNat = k + 1 := by omega
     cases h2 : ((s[k + 1].toNat : Int) == 58) with
     | false =>
      go_wp2_with fail
      go_roundw
      case rel => exact ⟨k + 1, j, by omega, hj, by go_num, rfl, HX⟩
      case measure => simp [intOf]; omega
     | true =>
      go_wp2_with fail
      refine (name02_ok _ _ (extract_le _ _ _ Hs.out)).mono ?_
      rintro e w2 ⟨b, _, rfl, hx⟩
      have HX2 := q_ (HX.out.trans hx)
      clear hx
      cases b with
      | false =>
       go_wp2_with fail
       go_ret
       exact ⟨_, trivial, rfl, HX2.out⟩
      | true =>
       go_wp2_with fail
       go_roundw
       case rel => exact ⟨k + 1, k + 2, by omega, by omega, by go_num, by go_num, HX2⟩
       case measure => simp [intOf]; omega
   ·go_wp2_with fail
    go_roundw
    case rel => exact ⟨k + 1, j, by omega, hj, by go_num, rfl, HX⟩
    case measure => simp [intOf]; omega
  ·go_wp2_with fail
   refine (name02_ok _ _ (extract_le _ _ _ Hs.out)).mono ?_
   rintro e w2 ⟨b, _, rfl, hx⟩
   have HX2 := q_ (HX.out.trans hx)
   clear hx
   go_wp2_with fail
   go_ret
   exact ⟨_, trivial, rfl, HX2.out⟩
end Go.Proofs.YtbkaffhbhimglaaGreat
