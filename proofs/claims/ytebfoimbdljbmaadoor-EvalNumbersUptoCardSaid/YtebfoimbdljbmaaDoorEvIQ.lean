/-
  The sums, differences, products and opposites of whole numbers, as the program's package ints has them. The conditions: the numbers are of 64 bits.
-/
import Derived.Test.YtebfoimbdljbmaaDoorEvAQ
import Derived.Shelf.Bits.Mul64
namespace Go.Proofs.YtebfoimbdljbmaaDoor
open Go.RowKit Go.Lib

/-- what fits, or the error -/
def fitN (n : Int) : Int × Int := if -9223372036854775808 ≤ n ∧ n ≤ 9223372036854775807 then (n, 0) else (0, 14)
def FitAns (n : Int) (w : World) : Ending → World → Prop := fun e w' => e = .returned (.tuple #[.int .i64 (fitN n).1, .int .i64 (fitN n).2]) ∧ w' = w
theorem wrap_or (n : Int) (h : -18446744073709551616 ≤ n ∧ n < 18446744073709551616) : (IntKind.i64.wrap n = n ∧ I64 n) ∨ (IntKind.i64.wrap n = n + 18446744073709551616 ∧ n < -9223372036854775808) ∨ (IntKind.i64.wrap n = n - 18446744073709551616 ∧ 9223372036854775807 < n) := by
  rw [IntKind.wrap_i64]; unfold I64; omega
set_option maxRecDepth 100000 in
set_option maxHeartbeats 4000000 in
theorem add_ok (a b : Int) (ha : I64 a) (hb : I64 b) (w : World) : Calls Tryd.prog 119 #[.int .i64 a, .int .i64 b] w (FitAns (a + b) w) := by
  unfold I64 at ha hb
  obtain ⟨c, hc⟩ : ∃ c, IntKind.i64.wrap (a + b) = c := ⟨_, rfl⟩
  obtain ⟨r, hr⟩ : ∃ r, fitN (a + b) = r := ⟨_, rfl⟩
  have hw := wrap_or (a + b) (by omega)
  unfold FitAns
  rw [hr]
  unfold fitN at hr
  have he : r = if decide (c < a) == decide (b < 0) then (c, 0) else (0, 14) := by
    rw [← hr]; unfold I64 at hw
    by_cases hf : -9223372036854775808 ≤ a + b ∧ a + b ≤ 9223372036854775807
    · rw [if_pos hf, if_pos (by simp; omega)]; simp; omega
    · rw [if_neg hf, if_neg (by simp; omega)]
  obtain ⟨p, hp⟩ : ∃ p, decide (c < a) = p := ⟨_, rfl⟩
  obtain ⟨q, hq⟩ : ∃ q, decide (b < 0) = q := ⟨_, rfl⟩
  rw [hp, hq] at he
  clear hw ha hb hr
  cases p <;> cases q <;> (first | replace he : r = (c, 0) := he | replace he : r = (0, 14) := he) <;> subst he
  all_goals
    go_enter Tryd.func119, Tryd.ntmps119
    go_wp2
    go_ret2
    exact ⟨rfl, rfl⟩
set_option maxRecDepth 100000 in
set_option maxHeartbeats 4000000 in
theorem sub_ok (a b : Int) (ha : I64 a) (hb : I64 b) (w : World) : Calls Tryd.prog 120 #[.int .i64 a, .int .i64 b] w (FitAns (a - b) w) := by
  unfold I64 at ha hb
  obtain ⟨c, hc⟩ : ∃ c, IntKind.i64.wrap (a - b) = c := ⟨_, rfl⟩
  obtain ⟨r, hr⟩ : ∃ r, fitN (a - b) = r := ⟨_, rfl⟩
  have hw := wrap_or (a - b) (by omega)
  unfold FitAns
  rw [hr]
  unfold fitN at hr
  have he : r = if decide (c > a) == decide (b < 0) then (c, 0) else (0, 14) := by
    rw [← hr]; unfold I64 at hw
    by_cases hf : -9223372036854775808 ≤ a - b ∧ a - b ≤ 9223372036854775807
    · rw [if_pos hf, if_pos (by simp; omega)]; simp; omega
    · rw [if_neg hf, if_neg (by simp; omega)]
  obtain ⟨p, hp⟩ : ∃ p, decide (c > a) = p := ⟨_, rfl⟩
  obtain ⟨q, hq⟩ : ∃ q, decide (b < 0) = q := ⟨_, rfl⟩
  rw [hp, hq] at he
  clear hw ha hb hr
  cases p <;> cases q <;> (first | replace he : r = (c, 0) := he | replace he : r = (0, 14) := he) <;> subst he
  all_goals
    go_enter Tryd.func120, Tryd.ntmps120
    go_wp2
    go_ret2
    exact ⟨rfl, rfl⟩
set_option maxRecDepth 100000 in
set_option maxHeartbeats 4000000 in
theorem size_ok (a : Int) (ha : I64 a) (w : World) : Calls Tryd.prog 41 #[.int .i64 a] w fun e w' => e = .returned (.int .u64 (a.natAbs : Int)) ∧ w' = w := by
  unfold I64 at ha
  by_cases hf : a < 0
  · have hd : decide (a < 0) = true := by simpa using hf
    have hq : IntKind.u64.wrap (-(IntKind.u64.wrap a)) = (a.natAbs : Int) := by simp only [IntKind.wrap_u64]; omega
    go_enter Tryd.func41, Tryd.ntmps41
    go_wp2
    go_ret
    exact ⟨rfl, rfl⟩
  · have hd : decide (a < 0) = false := by simpa using hf
    have hq : IntKind.u64.wrap a = (a.natAbs : Int) := by simp only [IntKind.wrap_u64]; omega
    go_enter Tryd.func41, Tryd.ntmps41
    go_wp2
    go_ret
    exact ⟨rfl, rfl⟩
def signed (m : Bool) (n : Nat) : Int := if m then -(n : Int) else n
set_option maxRecDepth 100000 in
set_option maxHeartbeats 4000000 in
theorem numberI_ok (m : Bool) (n : Int) (h0 : 0 ≤ n) (hn : n < 18446744073709551616) (w : World) : Calls Tryd.prog 40 #[.bool m, .int .u64 n] w (FitAns (if m then -n else n) w) := by
  obtain ⟨r, hr⟩ : ∃ r, fitN (if m then -n else n) = r := ⟨_, rfl⟩
  unfold FitAns
  rw [hr]
  unfold fitN at hr
  cases m with
  | true =>
    by_cases hf : n ≤ 9223372036854775808
    · rw [if_pos (by simp; omega)] at hr
      subst hr
      have hd : decide (n ≤ 9223372036854775808) = true := by simp; omega
      have hq : wrap64 (-(wrap64 n)) = -n := by unfold wrap64; omega
      clear h0 hn hf
      go_enter Tryd.func40, Tryd.ntmps40
      go_wp2
      go_ret2
      exact ⟨rfl, rfl⟩
    · rw [if_neg (by simp; omega)] at hr
      subst hr
      have hd : decide (n ≤ 9223372036854775808) = false := by simp; omega
      clear h0 hn hf
      go_enter Tryd.func40, Tryd.ntmps40
      go_wp2
      go_ret2
      exact ⟨rfl, rfl⟩
  | false =>
    by_cases hf : n < 9223372036854775808
    · rw [if_pos (by simp; omega)] at hr
      subst hr
      have hd : decide (n < 9223372036854775808) = true := by simp; omega
      have hq : IntKind.i64.wrap n = n := by simp only [IntKind.wrap_i64]; omega
      clear h0 hn hf
      go_enter Tryd.func40, Tryd.ntmps40
      go_wp2
      go_ret2
      exact ⟨rfl, rfl⟩
    · rw [if_neg (by simp; omega)] at hr
      subst hr
      have hd : decide (n < 9223372036854775808) = false := by simp; omega
      clear h0 hn hf
      go_enter Tryd.func40, Tryd.ntmps40
      go_wp2
      go_ret2
      exact ⟨rfl, rfl⟩
theorem number_ok (m : Bool) (n : Nat) (hn : n < 18446744073709551616) (w : World) : Calls Tryd.prog 40 #[.bool m, .int .u64 n] w (FitAns (signed m n) w) := numberI_ok m n (by omega) (by omega) w
set_option maxRecDepth 100000 in
set_option maxHeartbeats 4000000 in
theorem neg_ok (a : Int) (ha : I64 a) (w : World) : Calls Tryd.prog 28 #[.int .i64 a] w (FitAns (-a) w) := by
  have HZ := Lib.hid (size_ok a ha w)
  have HN := Lib.hid (number_ok (decide (a > 0)) a.natAbs (by unfold I64 at ha; omega) w)
  have e : signed (decide (a > 0)) a.natAbs = -a := by
    unfold signed
    by_cases h : a > 0
    · rw [if_pos (by simpa using h)]; omega
    · rw [if_neg (by simpa using h)]; omega
  rw [e] at HN
  obtain ⟨r, hr⟩ : ∃ r, fitN (-a) = r := ⟨_, rfl⟩
  unfold FitAns at HN ⊢
  rw [hr] at HN ⊢
  clear ha e hr
  go_enter Tryd.func28, Tryd.ntmps28
  go_wp2_with fail
  refine HZ.out.mono ?_
  rintro e1 w1 ⟨rfl, rfl⟩
  go_wp2_with fail
  refine HN.out.mono ?_
  rintro e1 w1 ⟨rfl, rfl⟩
  go_wp2_with fail
  go_ret2
  exact ⟨rfl, rfl⟩
set_option maxRecDepth 100000 in
set_option maxHeartbeats 4000000 in
theorem mul64_ok (x y : Nat) (hx : x < 18446744073709551616) (hy : y < 18446744073709551616) (w : World) :
    Calls Tryd.prog 122 #[.int .u64 x, .int .u64 y] w fun e w' => e = .returned (.tuple #[.int .u64 ((x * y / 18446744073709551616 : Nat) : Int), .int .u64 ((x * y % 18446744073709551616 : Nat) : Int)]) ∧ w' = w := by
  obtain ⟨bd, bt, bw, hhi⟩ := Lib.mul64_hi x y hx hy
  have ba := Lib.half_mul_le (a := x / 4294967296) (b := y / 4294967296) (by omega) (by omega)
  have bb := Lib.half_mul_le (a := x / 4294967296) (b := y % 4294967296) (by omega) (by omega)
  have bc := Lib.half_mul_le (a := x % 4294967296) (b := y / 4294967296) (by omega) (by omega)
  have ba' : x / 4294967296 * (y / 4294967296) < 18446744073709551616 := by omega
  have bb' : x / 4294967296 * (y % 4294967296) < 18446744073709551616 := by omega
  have bc' : x % 4294967296 * (y / 4294967296) < 18446744073709551616 := by omega
  have bh1 : x / 4294967296 * (y / 4294967296) + (x / 4294967296 * (y % 4294967296) + x % 4294967296 * (y % 4294967296) / 4294967296) / 4294967296 < 18446744073709551616 := by omega
  have bh : x / 4294967296 * (y / 4294967296) + (x / 4294967296 * (y % 4294967296) + x % 4294967296 * (y % 4294967296) / 4294967296) / 4294967296 + ((x / 4294967296 * (y % 4294967296) + x % 4294967296 * (y % 4294967296) / 4294967296) % 4294967296 + x % 4294967296 * (y / 4294967296)) / 4294967296 < 18446744073709551616 := by omega
  go_enter Tryd.func122, Tryd.ntmps122
  go_wp2
  simp only [Mul64.maskN x hx, Mul64.maskN y hy, Mul64.divN, Mul64.mulN, Mul64.addN, Mul64.wrapN _ bd, Mul64.wrapN _ bb', Mul64.wrapN _ bt, Mul64.maskN _ bt, Mul64.wrapN _ bc', Mul64.wrapN _ bw, Mul64.wrapN _ ba', Mul64.wrapN _ bh1, Mul64.wrapN _ bh, Mul64.wrapM (x * y)]
  rw [hhi]
  go_ret2
  exact ⟨rfl, rfl⟩
theorem mul_size (a b : Int) : (a * b).natAbs = a.natAbs * b.natAbs := Int.natAbs_mul a b
theorem mul_sign (a b : Int) : signed (decide (a < 0) != decide (b < 0)) (a.natAbs * b.natAbs) = a * b := by
  unfold signed
  rcases Int.lt_or_le a 0 with h | h <;> rcases Int.lt_or_le b 0 with k | k
  · rw [if_neg (by simp [h, k]), ← Int.natAbs_mul, Int.natAbs_of_nonneg (Int.le_of_lt (Int.mul_pos_of_neg_of_neg h k))]
  · rw [if_pos (by simp [h]; omega), ← Int.natAbs_mul, Int.ofNat_natAbs_of_nonpos (Int.mul_nonpos_of_nonpos_of_nonneg (Int.le_of_lt h) k), Int.neg_neg]
  · rw [if_pos (by simp [k]; omega), ← Int.natAbs_mul, Int.ofNat_natAbs_of_nonpos (Int.mul_nonpos_of_nonneg_of_nonpos h (Int.le_of_lt k)), Int.neg_neg]
  · rw [if_neg (by simp; omega), ← Int.natAbs_mul, Int.natAbs_of_nonneg (Int.mul_nonneg h k)]
set_option maxRecDepth 100000 in
set_option maxHeartbeats 4000000 in
theorem mul_ok (a b : Int) (ha : I64 a) (hb : I64 b) (w : World) : Calls Tryd.prog 121 #[.int .i64 a, .int .i64 b] w (FitAns (a * b) w) := by
  have HA := Lib.hid (size_ok a ha w)
  have HB := Lib.hid (size_ok b hb w)
  have HM := Lib.hid (mul64_ok a.natAbs b.natAbs (by unfold I64 at ha; omega) (by unfold I64 at hb; omega) w)
  obtain ⟨p, hp⟩ : ∃ p, a.natAbs * b.natAbs = p := ⟨_, rfl⟩
  obtain ⟨h, hh⟩ : ∃ h, p / 18446744073709551616 = h := ⟨_, rfl⟩
  obtain ⟨l, hl⟩ : ∃ l, p % 18446744073709551616 = l := ⟨_, rfl⟩
  have HN := Lib.hid (number_ok (decide (a < 0) != decide (b < 0)) l (by omega) w)
  have hs := mul_sign a b
  have hz : (a * b).natAbs = p := by rw [mul_size, hp]
  rw [hp] at HM hs
  rw [hh, hl] at HM
  obtain ⟨r, hr⟩ : ∃ r, fitN (a * b) = r := ⟨_, rfl⟩
  unfold FitAns
  rw [hr]
  by_cases h0 : h = 0
  · subst h0
    have el : l = p := by omega
    rw [el, hs] at HN
    subst el
    unfold FitAns at HN
    rw [hr] at HN
    clear ha hb hh hl hs hz hr hp
    go_enter Tryd.func121, Tryd.ntmps121
    go_wp2_with fail
    refine HA.out.mono ?_
    rintro e1 w1 ⟨rfl, rfl⟩
    go_wp2_with fail
    refine HB.out.mono ?_
    rintro e1 w1 ⟨rfl, rfl⟩
    go_wp2_with fail
    refine HM.out.mono ?_
    rintro e1 w1 ⟨rfl, rfl⟩
    go_wp2_with fail
    refine HN.out.mono ?_
    rintro e1 w1 ⟨rfl, rfl⟩
    go_wp2_with fail
    go_ret2
    exact ⟨rfl, rfl⟩
  · have hd : decide ((h : Int) > 0) = true := by simp; omega
    have e : r = (0, 14) := by rw [← hr]; unfold fitN; rw [if_neg (by omega)]
    subst e
    clear ha hb hh hl hs hz hr hp HN
    go_enter Tryd.func121, Tryd.ntmps121
    go_wp2_with fail
    refine HA.out.mono ?_
    rintro e1 w1 ⟨rfl, rfl⟩
    go_wp2_with fail
    refine HB.out.mono ?_
    rintro e1 w1 ⟨rfl, rfl⟩
    go_wp2_with fail
    refine HM.out.mono ?_
    rintro e1 w1 ⟨rfl, rfl⟩
    go_wp2_with fail
    go_ret2
    exact ⟨rfl, rfl⟩
end Go.Proofs.YtebfoimbdljbmaaDoor
