/-
  DecideTemplates: the closed facts of its row, one by one. The conditions: none.
-/
import Derived.Test.YtebfoimbdljbmaaGreatDoorProg
import Derived.Test.YtebfoimbdljbmaaGreatDoorRows
import Derived.JoinedCond
import Derived.ProofKit
namespace Go.Proofs.YtebfoimbdljbmaaGreatDoor.decideTemplates
open Go.ChangeShapes Go.WideShapes Go.ChangeAt
set_option maxRecDepth 100000
set_option maxHeartbeats 4000000
theorem closed : joinedFacts Tryz.prog 8 Tryz.f8 (Rows.OpenSpec.upto Rows.decideTemplatesSpec).bare Rows.decideTemplatesUptoRow = true := by
 unfold joinedFacts
 simp only [Bool.and_eq_true]
 repeat' apply And.intro
 all_goals as_aux_lemma => kernel_rfl
end Go.Proofs.YtebfoimbdljbmaaGreatDoor.decideTemplates
