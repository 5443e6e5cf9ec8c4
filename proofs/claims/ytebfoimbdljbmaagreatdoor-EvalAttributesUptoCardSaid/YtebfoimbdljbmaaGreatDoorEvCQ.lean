/-
  One step of the program's evaluation: sets and records. The conditions: what is handed in lies in memory as it should.
-/
import Derived.Test.YtebfoimbdljbmaaGreatDoorEvEQ
namespace Go.Proofs.YtebfoimbdljbmaaGreatDoor
open Go.RowKit
theorem allV_le : ∀ l : List Rs, (zda l).1.length ≤ l.length
 | [] => by simp [zda]
 | r :: l => by
  have := allV_le l
  unfold zda
  repeat' split
  all_goals simp
  all_goals omega
end Go.Proofs.YtebfoimbdljbmaaGreatDoor
