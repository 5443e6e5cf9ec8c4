/-
  What an expression comes to, as the program has it. The conditions: what is handed in lies in memory as it should; the entities' attributes are not deep.
-/
import Derived.Test.YtebfoimbdljbmaaGreatDoorCallJQ
namespace Go.Proofs.YtebfoimbdljbmaaGreatDoor
open Go.RowKit
theorem Tryz.aggQ : ∀ w, (isAgg 34).run Tryz.prog w = .ok true w := fun _ => by kernel_rfl
theorem zb5 : ∀ w, (Go.sizeOf 34).run Tryz.prog w = .ok 14 w := fun _ => by kernel_rfl
end Go.Proofs.YtebfoimbdljbmaaGreatDoor
