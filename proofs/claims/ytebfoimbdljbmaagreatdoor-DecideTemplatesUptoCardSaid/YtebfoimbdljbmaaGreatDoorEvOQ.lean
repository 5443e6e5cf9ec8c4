/-
  What asks for one value, as the program's evaluation has it. The conditions: what is handed in lies in memory as it should.
-/
import Derived.Test.YtebfoimbdljbmaaGreatDoorEvWQ
import Derived.Shelf.Bits.Mul64
namespace Go.Proofs.YtebfoimbdljbmaaGreatDoor
open Go.RowKit
theorem zb0 (a b : ByteArray) : decide (a = b) = (a.toList == b.toList) := by
 by_cases h : a = b
 ·simp [h]
 ·rw [decide_eq_false h, Eq.comm, beq_eq_false_iff_ne]
  exact fun e => h (toList_inj e)
end Go.Proofs.YtebfoimbdljbmaaGreatDoor
