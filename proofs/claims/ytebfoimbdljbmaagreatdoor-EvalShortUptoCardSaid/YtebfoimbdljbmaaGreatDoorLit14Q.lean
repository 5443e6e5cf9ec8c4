/-
  A literal, as the laws make it. The conditions: none.
-/
import Derived.Test.YtebfoimbdljbmaaGreatDoorEvHQ
namespace Go.Proofs.YtebfoimbdljbmaaGreatDoor
open Go.RowKit
/-- a literal's cells -/
def zeroExp : List Value := [.int .i64 0, .int .i64 0, .bool false, .int .i64 0, .string ByteArray.empty, .string ByteArray.empty, .string ByteArray.empty, .slice none 0 0, .slice none 0 0, .string ByteArray.empty, .slice none 0 0, .slice none 0 0]
set_option maxRecDepth 100000 in
set_option maxHeartbeats 4000000 in
theorem lit_ok (lk : Int) (lb : Bool) (ln : Int) (ls lt lu : ByteArray) (lA : Option Addr) (ll lc : Nat) (lB : Option Addr) (lm ld : Nat) (w : World) :
    Calls Tryz.prog 12 #[.agg ([.int .i64 lk, .bool lb, .int .i64 ln, .string ls, .string lt, .string lu, .slice lA ll lc, .slice lB lm ld] : List Value).toArray] w fun e w' => e = .returned (.agg ([.int .i64 1, .int .i64 lk, .bool lb, .int .i64 ln, .string ls, .string lt, .string lu, .slice lA ll lc, .slice lB lm ld, .string ByteArray.empty, .slice none 0 0, .slice none 0 0] : List Value).toArray) ∧ Ext w w' := by
  have HV0 := Lib.hid ((heap_alloc_old (w.alloc (.cells #[.int .i64 lk, .bool lb, .int .i64 ln, .string ls, .string lt, .string lu, .slice lA ll lc, .slice lB lm ld] 27)) (.cells zeroExp.toArray 30) (Blk_lt (heap_alloc_new w (.cells #[.int .i64 lk, .bool lb, .int .i64 ln, .string ls, .string lt, .string lu, .slice lA ll lc, .slice lB lm ld] 27)))).trans (heap_alloc_new w (.cells #[.int .i64 lk, .bool lb, .int .i64 ln, .string ls, .string lt, .string lu, .slice lA ll lc, .slice lB lm ld] 27)))
  go_enter Tryz.func12, Tryz.ntmps12
  go_wp2_with (first | (with_reducible refine at_load ?_; refine wpList_load_cells rfl 27 _ rfl w.heap.size 0 rfl Tryz.agg27 Tryz.size27 (cs := [.int .i64 lk, .bool lb, .int .i64 ln, .string ls, .string lt, .string lu, .slice lA ll lc, .slice lB lm ld]) rfl (cells_of_row HV0.out) ?_))
  exact bodyPost_ret (v := .agg ([.int .i64 1, .int .i64 lk, .bool lb, .int .i64 ln, .string ls, .string lt, .string lu, .slice lA ll lc, .slice lB lm ld, .string ByteArray.empty, .slice none 0 0, .slice none 0 0] : List Value).toArray) (results_one Tryz.results12 rfl Tryz.aggEx Tryz.sizeEx rfl (cells_of_row (heap_alloc_at (by simp) _))) rfl ⟨rfl, ((Ext.refl w).alloc _).alloc _⟩
end Go.Proofs.YtebfoimbdljbmaaGreatDoor
