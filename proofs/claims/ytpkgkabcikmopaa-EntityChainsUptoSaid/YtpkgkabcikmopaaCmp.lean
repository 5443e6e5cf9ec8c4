/-
  What the library's comparisons, and the small functions on values, come to. The conditions: none beyond each contract's own.
-/
import Derived.Test.YtpkgkabcikmopaaVal
import Derived.Test.YtpkgkabcikmopaaQuiet
namespace Go.Proofs.Ytpkgkabcikmopaa
open Go.RowKit

theorem ret_int {k : IntKind} {a b : Int} (h : a = b) : Ending.returned (.int k a) = .returned (.int k b) := by rw [h]
theorem ret_bool {a b : Bool} (h : a = b) : Ending.returned (.bool a) = .returned (.bool b) := by rw [h]
theorem Blk_lt {w : World} {g : Nat} {o : Obj} (h : w.heap[g]? = some o) : g < w.heap.size := by
  rcases Nat.lt_or_ge g w.heap.size with hlt | hge
  · exact hlt
  · rw [Array.getElem?_eq_none hge] at h; cases h

theorem isNaN_int (a : Int) (w : World) : Calls Try.prog 80 #[.int .i64 a] w fun e w' => e = .returned (.bool false) ∧ w = w' := by
  go_enter Try.func80, Try.ntmps80
  go_wp2
  go_ret
  exact ⟨rfl, rfl⟩

theorem isNaN_int64 (a : Int) (w : World) : Calls Try.prog 81 #[.int .i64 a] w fun e w' => e = .returned (.bool false) ∧ w = w' := by
  go_enter Try.func81, Try.ntmps81
  go_wp2
  go_ret
  exact ⟨by simp, rfl⟩

theorem isNaN_string (a : ByteArray) (w : World) : Calls Try.prog 82 #[.string a] w fun e w' => e = .returned (.bool false) ∧ w = w' := by
  go_enter Try.func82, Try.ntmps82
  go_wp2
  go_ret
  exact ⟨by simp, rfl⟩

theorem compare_int (a b : Int) (w : World) : Calls Try.prog 49 #[.int .i64 a, .int .i64 b] w fun e w' => e = .returned (.int .i64 (cmpI a b)) ∧ w = w' := by
  go_enter Try.func49, Try.ntmps49
  go_wp2_with (go_at_call 80; refine (isNaN_int _ _).mono ?_; rintro e w' ⟨rfl, rfl⟩)
  · go_ret
    have h : a < b := by assumption
    exact ⟨ret_int (by simp [cmpI, h]), rfl⟩
  · go_ret
    have h : b < a := by assumption
    exact ⟨ret_int (by rw [cmpI, if_neg (by omega), if_pos h]), rfl⟩
  · go_ret
    exact ⟨ret_int (by rw [cmpI, if_neg (by omega), if_neg (by omega)]), rfl⟩

theorem compare_int64 (a b : Int) (w : World) : Calls Try.prog 51 #[.int .i64 a, .int .i64 b] w fun e w' => e = .returned (.int .i64 (cmpI a b)) ∧ w = w' := by
  go_enter Try.func51, Try.ntmps51
  go_wp2_with (go_at_call 81; refine (isNaN_int64 _ _).mono ?_; rintro e w' ⟨rfl, rfl⟩)
  · go_ret
    have h : a < b := by assumption
    exact ⟨ret_int (by simp [cmpI, h]), rfl⟩
  · go_ret
    have h : b < a := by assumption
    exact ⟨ret_int (by rw [cmpI, if_neg (by omega), if_pos h]), rfl⟩
  · go_ret
    exact ⟨ret_int (by rw [cmpI, if_neg (by omega), if_neg (by omega)]), rfl⟩

theorem compare_string (a b : ByteArray) (w : World) : Calls Try.prog 52 #[.string a, .string b] w fun e w' => e = .returned (.int .i64 (cmpS a b)) ∧ w = w' := by
  go_enter Try.func52, Try.ntmps52
  go_wp2_with (go_at_call 82; refine (isNaN_string _ _).mono ?_; rintro e w' ⟨rfl, rfl⟩)
  · go_ret
    have h : Op.bytesLess a.toList b.toList = true := by assumption
    rw [bytesLess_cmpL] at h
    exact ⟨ret_int (by rw [cmpS]; simp at h; omega), rfl⟩
  · go_ret
    have h : Op.bytesLess a.toList b.toList = false := by assumption
    have h2 : (!a.toList == b.toList) = true := by assumption
    rw [bytesLess_cmpL] at h
    have hr := cmpL_range a.toList b.toList
    have h0 : cmpL a.toList b.toList ≠ 0 := fun e => by simp [cmpL_eq _ _ e] at h2
    exact ⟨ret_int (by rw [cmpS]; simp at h; omega), rfl⟩
  · go_ret
    have h2 : (!a.toList == b.toList) = false := by assumption
    exact ⟨ret_int (by rw [cmpS]; simp at h2; rw [h2, cmpL_refl]), rfl⟩

theorem bit_ok (b : Bool) (w : World) : Calls Try.prog 50 #[.bool b] w fun e w' => e = .returned (.int .i64 (bit b)) ∧ w = w' := by
  cases b
  all_goals
    go_enter Try.func50, Try.ntmps50
    go_wp2
    go_ret
    exact ⟨rfl, rfl⟩

/-- the first of two numbers that is not 0 -/
theorem or_two (a b : Int) (g : Nat) (w : World) (c0 : w.cell? ⟨g, 0, none⟩ = some (.int .i64 a)) (c1 : w.cell? ⟨g, 1, none⟩ = some (.int .i64 b)) :
    Calls Try.prog 55 #[.slice (some ⟨g, 0, none⟩) 2 2] w fun e w' => e = .returned (.int .i64 (lex2 a b)) ∧ w = w' := by
  by_cases ha : a = 0
  · subst ha
    have e0 : ((0 : Int) != 0) = false := rfl
    by_cases hb : b = 0
    · subst hb
      go_enter Try.func55, Try.ntmps55
      go_wp2
      refine wp_loop_rounds 3 ?_
      rw [rounds_succ]
      go_wp2
      rw [rounds_succ]
      go_wp2
      rw [rounds_succ]
      go_wp2
      go_ret
      exact ⟨ret_int (by simp [lex2]), rfl⟩
    · have e1 : (b != 0) = true := by simpa using hb
      have H := Lib.hid hb
      clear hb
      go_enter Try.func55, Try.ntmps55
      go_wp2
      refine wp_loop_rounds 3 ?_
      rw [rounds_succ]
      go_wp2
      rw [rounds_succ]
      go_wp2
      go_ret
      exact ⟨ret_int (by simp [lex2]), rfl⟩
  · have e1 : (a != 0) = true := by simpa using ha
    have H := Lib.hid ha
    clear ha
    go_enter Try.func55, Try.ntmps55
    go_wp2
    refine wp_loop_rounds 3 ?_
    rw [rounds_succ]
    go_wp2
    go_ret
    exact ⟨ret_int (by simp [lex2, H.out]), rfl⟩

theorem uids_ok (t1 i1 t2 i2 : ByteArray) (w : World) : Calls Try.prog 53 #[.agg #[.string t1, .string i1], .agg #[.string t2, .string i2]] w fun e w' =>
    e = .returned (.int .i64 (lex2 (cmpS t1 t2) (cmpS i1 i2))) ∧ Ext w w' := by
  go_enter Try.func53, Try.ntmps53
  go_wp2
  obtain ⟨w1, hw1⟩ : ∃ w1, w1 = (w.alloc (.cells #[.string t1, .string i1] 23)).alloc (.cells #[.string t2, .string i2] 23) := ⟨_, rfl⟩
  rw [← hw1]
  have c0 := cell_regrown (show w1.cell? ⟨w.heap.size, 0, none⟩ = some (.string t1) by rw [hw1]; go_simp)
  have c1 := cell_regrown (show w1.cell? ⟨w.heap.size, 1, none⟩ = some (.string i1) by rw [hw1]; go_simp)
  have c2 := cell_regrown (show w1.cell? ⟨w.heap.size + 1, 0, none⟩ = some (.string t2) by rw [hw1]; go_simp)
  have c3 := cell_regrown (show w1.cell? ⟨w.heap.size + 1, 1, none⟩ = some (.string i2) by rw [hw1]; go_simp)
  have hx : Ext w w1 := by rw [hw1]; exact ((Ext.refl w).alloc _).alloc _
  have HX := Lib.hid hx
  clear hw1 hx
  refine region_later_tail 10 (by kernel_rfl) (by kernel_rfl) ?_
  simp only [List.take_succ_cons, List.take_zero, List.drop_succ_cons, List.drop_zero]
  repeat (quiet_step (first | exact later_same (compare_string _ _) _ _))
  refine wpQuiet_nil ?_
  intro w2 hw2
  have HX2 := Lib.hid hw2
  clear hw2 c0 c1 c2 c3
  go_wp2_with (go_at_call 55; refine (or_two (cmpS t1 t2) (cmpS i1 i2) _ _ (by go_simp) (by go_simp)).mono ?_; rintro e w' ⟨rfl, rfl⟩)
  go_ret
  exact ⟨rfl, (HX.out.trans HX2.out).alloc _⟩

end Go.Proofs.Ytpkgkabcikmopaa
