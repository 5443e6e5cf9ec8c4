/-
  EvalSets: the closed facts of its row, one by one. The conditions: none.
-/
import Derived.Test.YtebfoimbdljbmaaDoorProg
import Derived.Test.YtebfoimbdljbmaaDoorRows
import Derived.JoinedCond
import Derived.ProofKit
namespace Go.Proofs.YtebfoimbdljbmaaDoor.evalSets
open Go.ChangeShapes Go.WideShapes Go.ChangeAt

set_option maxRecDepth 100000 in
set_option maxHeartbeats 4000000 in
theorem closed : joinedFacts Tryd.prog 4 Tryd.f4 (Rows.OpenSpec.upto Rows.evalSetsSpec).bare Rows.evalSetsUptoRow = true := by
  unfold joinedFacts
  simp only [Bool.and_eq_true]
  repeat' apply And.intro
  all_goals as_aux_lemma => kernel_rfl
end Go.Proofs.YtebfoimbdljbmaaDoor.evalSets
