/-
  Sorting a row of at most one text. The conditions: the row has no more than one.
-/
import Derived.Test.YtebfoimbdljbmaaGreatDoorAppSQ
namespace Go.Proofs.YtebfoimbdljbmaaGreatDoor
open Go.RowKit
open Lib renaming hid → q_
set_option maxRecDepth 100000
set_option maxHeartbeats 4000000
theorem len64_0 (w : World) : Calls Tryz.prog 143 #[.int .u64 0] w fun e w' => (∃ k : Int, e = .returned (.int .i64 k)) ∧ w = w' := by
 go_enter Tryz.func143, Tryz.ntmps143
 go_wp2_with fail
 go_ret
 exact ⟨⟨_, rfl⟩, rfl⟩
theorem len64_1 (w : World) : Calls Tryz.prog 143 #[.int .u64 1] w fun e w' => (∃ k : Int, e = .returned (.int .i64 k)) ∧ w = w' := by
 go_enter Tryz.func143, Tryz.ntmps143
 go_wp2_with fail
 go_ret
 exact ⟨⟨_, rfl⟩, rfl⟩
theorem ins1 (A : Option Addr) (c n : Nat) (hn : n ≤ 1) (w : World) : Calls Tryz.prog 187 #[.slice A n c, .int .i64 0, .int .i64 n] w fun e w' => (∃ v, e = .returned v) ∧ w = w' := by
 rcases (by omega : n = 0 ∨ n = 1) with rfl | rfl
 all_goals
  go_enter Tryz.func187, Tryz.ntmps187
  go_wp2_with fail
  go_loopw [6, 7] (fun i' _ wr => i' = .int .i64 1 ∧ wr = w) (fun _ _ _ => 0)
  case atStart => exact ⟨rfl, rfl⟩
  case round =>
   obtain ⟨rfl, rfl⟩ := hrel
   go_wp2_with fail
   go_end0
   exact ⟨⟨_, rfl⟩, rfl⟩
theorem pdq1 (A : Option Addr) (c n : Nat) (k : Int) (hn : n ≤ 1) (w : World) : Calls Tryz.prog 160 #[.slice A n c, .int .i64 0, .int .i64 n, .int .i64 k] w fun e w' => (∃ v, e = .returned v) ∧ w = w' := by
 have HI := q_ (ins1 A c n hn w)
 rcases (by omega : n = 0 ∨ n = 1) with rfl | rfl
 ·go_enter Tryz.func160, Tryz.ntmps160
  go_wp2_with fail
  go_loopw [1, 2] (fun a' b' wr => a' = .int .i64 0 ∧ b' = .int .i64 0 ∧ wr = w) (fun _ _ _ => 0)
  case atStart => exact ⟨rfl, rfl, rfl⟩
  case round =>
   obtain ⟨rfl, rfl, rfl⟩ := hrel
   go_wp2_with fail
   refine HI.out.mono ?_
   rintro e w' ⟨⟨v, rfl⟩, rfl⟩
   go_wp2_with fail
   exact bodyPost_ret (results_none rfl _ _ _) rfl ⟨⟨_, rfl⟩, rfl⟩
 ·go_enter Tryz.func160, Tryz.ntmps160
  go_wp2_with fail
  go_loopw [1, 2] (fun a' b' wr => a' = .int .i64 0 ∧ b' = .int .i64 1 ∧ wr = w) (fun _ _ _ => 0)
  case atStart => exact ⟨rfl, rfl, rfl⟩
  case round =>
   obtain ⟨rfl, rfl, rfl⟩ := hrel
   go_wp2_with fail
   refine HI.out.mono ?_
   rintro e w' ⟨⟨v, rfl⟩, rfl⟩
   go_wp2_with fail
   exact bodyPost_ret (results_none rfl _ _ _) rfl ⟨⟨_, rfl⟩, rfl⟩
theorem len1 (n : Nat) (hn : n ≤ 1) (w : World) : Calls Tryz.prog 97 #[.int .u64 n] w fun e w' => (∃ k : Int, e = .returned (.int .i64 k)) ∧ w = w' := by
 rcases (by omega : n = 0 ∨ n = 1) with rfl | rfl
 ·go_enter Tryz.func97, Tryz.ntmps97
  go_wp2_with fail
  refine (len64_0 w).mono ?_
  rintro e w' ⟨⟨v, rfl⟩, rfl⟩
  go_wp2_with fail
  go_ret
  exact ⟨⟨_, rfl⟩, rfl⟩
 ·go_enter Tryz.func97, Tryz.ntmps97
  go_wp2_with fail
  refine (len64_1 w).mono ?_
  rintro e w' ⟨⟨v, rfl⟩, rfl⟩
  go_wp2_with fail
  go_ret
  exact ⟨⟨_, rfl⟩, rfl⟩
theorem sort1_ok (A : Option Addr) (c n : Nat) (hn : n ≤ 1) (w : World) : Calls Tryz.prog 117 #[.slice A n c] w fun e w' => (∃ v, e = .returned v) ∧ w = w' := by
 have HL := q_ (len1 n hn w)
 have HP := q_ fun k => pdq1 A c n k hn w
 have h0 : ((n : Int) % 18446744073709551616) = n := by omega
 go_enter Tryz.func117, Tryz.ntmps117
 go_wp2_with fail
 refine HL.out.mono ?_
 rintro e w' ⟨⟨k, rfl⟩, rfl⟩
 go_wp2_with fail
 refine (HP.out k).mono ?_
 rintro e w' ⟨⟨v, rfl⟩, rfl⟩
 go_wp2_with fail
 go_end0
 exact ⟨⟨_, rfl⟩, rfl⟩
end Go.Proofs.YtebfoimbdljbmaaGreatDoor
