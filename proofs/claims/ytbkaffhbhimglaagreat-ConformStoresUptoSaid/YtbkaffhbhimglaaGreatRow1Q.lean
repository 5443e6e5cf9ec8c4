/-
  A block's cells, from the block. No function of the program. The conditions: none (a lemma).
-/
import Derived.Test.YtbkaffhbhimglaaGreatGd
namespace Go.Proofs.YtbkaffhbhimglaaGreat
open Go.RowKit
theorem zat {w : World} {g : Nat} {cs : List Value} {T : TypeId} (h : w.heap[g]? = some (.cells cs.toArray T (0, 0))) : CellsAt w g 0 cs := fun j v hj => by
 rw [cell_of_row _ _ _ _ _ _ h]
 simpa using hj
end Go.Proofs.YtbkaffhbhimglaaGreat
