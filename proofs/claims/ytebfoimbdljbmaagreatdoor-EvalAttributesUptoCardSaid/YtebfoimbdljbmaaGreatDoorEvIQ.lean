/-
  The sums, differences, products and opposites of whole numbers, as the program's package ints has them. The conditions: the numbers are of 64 bits.
-/
import Derived.Test.YtebfoimbdljbmaaGreatDoorEvAQ
import Derived.Shelf.Bits.Mul64
namespace Go.Proofs.YtebfoimbdljbmaaGreatDoor
open Go.RowKit Go.Lib
set_option maxRecDepth 100000
set_option maxHeartbeats 4000000
def fitN (n : Int) : Int × Int := if -9223372036854775808 ≤ n ∧ n ≤ 9223372036854775807 then (n, 0) else (0, 14)
def FitAns (n : Int) (w : World) : Ending → World → Prop := fun e w' => e = .returned (.tuple #[.int .i64 (fitN n).1, .int .i64 (fitN n).2]) ∧ w' = w
theorem wrap_or (n : Int) (h : -18446744073709551616 ≤ n ∧ n < 18446744073709551616) : (IntKind.i64.wrap n = n ∧ I64 n) ∨ (IntKind.i64.wrap n = n + 18446744073709551616 ∧ n < -9223372036854775808) ∨ (IntKind.i64.wrap n = n - 18446744073709551616 ∧ 9223372036854775807 < n) := by
 rw [IntKind.wrap_i64]; unfold I64; omega
theorem add_ok (a b : Int) (ha : I64 a) (hb : I64 b) (w : World) : Calls Tryz.prog 250 #[.int .i64 a, .int .i64 b] w (FitAns (a + b) w) := by
 unfold I64 at ha hb
 obtain ⟨c, hc⟩ : ∃ c, IntKind.i64.wrap (a + b) = c := ⟨_, rfl⟩
 obtain ⟨r, hr⟩ : ∃ r, fitN (a + b) = r := ⟨_, rfl⟩
 have hw := wrap_or (a + b) (by omega)
 unfold FitAns
 rw [hr]
 unfold fitN at hr
 have he : r = if decide (c < a) == decide (b < 0) then (c, 0) else (0, 14) := by
  rw [← hr]; unfold I64 at hw
  by_cases hf : -9223372036854775808 ≤ a + b ∧ a + b ≤ 9223372036854775807
  ·rw [if_pos hf, if_pos (by simp; omega)]; simp; omega
  ·rw [if_neg hf, if_neg (by simp; omega)]
 obtain ⟨p, hp⟩ : ∃ p, decide (c < a) = p := ⟨_, rfl⟩
 obtain ⟨q, hq⟩ : ∃ q, decide (b < 0) = q := ⟨_, rfl⟩
 rw [hp, hq] at he
 clear hw ha hb hr
 cases p <;> cases q <;> (first | replace he : r = (c, 0) := he | replace he : r = (0, 14) := he) <;> subst he
 all_goals
  go_enter Tryz.func250, Tryz.ntmps250
  go_wp2
  go_ret2
  exact ⟨rfl, rfl⟩
end Go.Proofs.YtebfoimbdljbmaaGreatDoor
