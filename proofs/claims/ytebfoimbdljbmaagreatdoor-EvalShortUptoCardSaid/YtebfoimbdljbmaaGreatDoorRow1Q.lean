/-
  A block's cells, from the block. No function of the program. The conditions: none (a lemma).
-/
import Derived.Test.YtebfoimbdljbmaaGreatDoorGd
namespace Go.Proofs.YtebfoimbdljbmaaGreatDoor
open Go.RowKit
theorem cells_of_row {w : World} {g : Nat} {cs : List Value} {T : TypeId} (h : w.heap[g]? = some (.cells cs.toArray T (0, 0))) : CellsAt w g 0 cs := fun j v hj => by
  rw [cell_of_row _ _ _ _ _ _ h]
  simpa using hj
end Go.Proofs.YtebfoimbdljbmaaGreatDoor
