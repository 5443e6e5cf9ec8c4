/-
  One step of the program's evaluation: sets and records. The conditions: what is handed in lies in memory as it should.
-/
import Derived.Test.YtebfoimbdljbmaaDoorEvEQ
namespace Go.Proofs.YtebfoimbdljbmaaDoor
open Go.RowKit
theorem allV_le : ∀ l : List Rs, (allV l).1.length ≤ l.length
  | [] => by simp [allV]
  | r :: l => by
    have := allV_le l
    unfold allV
    repeat' split
    all_goals simp
    all_goals omega
end Go.Proofs.YtebfoimbdljbmaaDoor
