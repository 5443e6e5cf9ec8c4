/-
  What the row's list of laid variables gives the walks: the table of operators. The conditions: none beyond the row's own.
-/
import Derived.Test.YtebfoimbdljbmaaGreatDoorEvBQ
import Derived.Test.YtebfoimbdljbmaaGreatDoorRows
import Derived.ProofKit
import Derived.LaidMore
import Derived.Maps.Keyed
import Derived.WideKeyElems2
namespace Go.Proofs.YtebfoimbdljbmaaGreatDoor
open Go.ChangeShapes Go.WideShapes Go.ChangeAt Go.RowKit
theorem door_met (os : Os) (args : Array Value) : laidMetH Tryz.prog [("chamberlain/eval.sums", Rows.laid_chamberlain_eval_sums)] ((World.doorLaid Tryz.prog 600 os).forCall (fun _ _ => 0) ⟨#[], args, []⟩).memory :=
 laidMetH_of_parts3 (fuel := 8) (laidMet_of_run' 8 (by kernel_rfl) (by kernel_rfl)) (by kernel_rfl) (by kernel_rfl)
end Go.Proofs.YtebfoimbdljbmaaGreatDoor
