/-
  EvalNumbers: the closed facts of its row, one by one. The conditions: none.
-/
import Derived.Test.YtebfoimbdljbmaaDoorProg
import Derived.Test.YtebfoimbdljbmaaDoorRows
import Derived.JoinedCond
import Derived.ProofKit
namespace Go.Proofs.YtebfoimbdljbmaaDoor.evalNumbers
open Go.ChangeShapes Go.WideShapes Go.ChangeAt

set_option maxRecDepth 100000 in
set_option maxHeartbeats 4000000 in
theorem closed : joinedFacts Tryd.prog 3 Tryd.f3 (Rows.OpenSpec.upto Rows.evalNumbersSpec).bare Rows.evalNumbersUptoRow = true := by
  unfold joinedFacts
  simp only [Bool.and_eq_true]
  repeat' apply And.intro
  all_goals as_aux_lemma => kernel_rfl
end Go.Proofs.YtebfoimbdljbmaaDoor.evalNumbers
