/-
  Is an expression small enough: what the statements ask first. The conditions: it lies in memory as it should.
-/
import Derived.Test.YtebfoimbdljbmaaGreatDoorExpQ
import Derived.Test.YtebfoimbdljbmaaGreatDoorMeasQ
namespace Go.Proofs.YtebfoimbdljbmaaGreatDoor
open Go.RowKit
theorem zag {w : World} {g : Nat} {pre cs r : List Value} {T : TypeId} (h : w.heap[g]? = some (.cells (pre ++ (cs ++ r)).toArray T (0, 0))) : CellsAt w g pre.length cs := fun j v hj => by
 have h1 := cell_of_row w g (pre.length + j) _ _ _ h
 rw [h1]
 simp only [List.getElem?_toArray]
 rw [List.getElem?_append_right (by omega), show pre.length + j - pre.length = j by omega, List.getElem?_append_left (List.getElem?_eq_some_iff.1 hj).1]
 exact hj
end Go.Proofs.YtebfoimbdljbmaaGreatDoor
