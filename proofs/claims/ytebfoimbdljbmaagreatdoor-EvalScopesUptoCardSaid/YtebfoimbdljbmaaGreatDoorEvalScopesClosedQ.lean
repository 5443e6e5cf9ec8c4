/-
  EvalScopes: the closed facts of its row, one by one. The conditions: none.
-/
import Derived.Test.YtebfoimbdljbmaaGreatDoorProg
import Derived.Test.YtebfoimbdljbmaaGreatDoorRows
import Derived.JoinedCond
import Derived.ProofKit
namespace Go.Proofs.YtebfoimbdljbmaaGreatDoor.evalScopes
open Go.ChangeShapes Go.WideShapes Go.ChangeAt

set_option maxRecDepth 100000 in
set_option maxHeartbeats 4000000 in
theorem closed : joinedFacts Tryz.prog 6 Tryz.f6 (Rows.OpenSpec.upto Rows.evalScopesSpec).bare Rows.evalScopesUptoRow = true := by
  unfold joinedFacts
  simp only [Bool.and_eq_true]
  repeat' apply And.intro
  all_goals as_aux_lemma => kernel_rfl
end Go.Proofs.YtebfoimbdljbmaaGreatDoor.evalScopes
