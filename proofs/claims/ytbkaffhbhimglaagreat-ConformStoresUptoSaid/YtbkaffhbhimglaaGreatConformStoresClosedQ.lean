/-
  ConformStores: the closed facts of its row, one by one. The conditions: none.
-/
import Derived.Test.YtbkaffhbhimglaaGreatProg
import Derived.Test.YtbkaffhbhimglaaGreatRows
import Derived.JoinedCond
import Derived.ProofKit
namespace Go.Proofs.YtbkaffhbhimglaaGreat.conformStores
open Go.ChangeShapes Go.WideShapes Go.ChangeAt
set_option maxRecDepth 100000
set_option maxHeartbeats 4000000
theorem closed : joinedFacts Tryz.prog 3 Tryz.f3 (Rows.OpenSpec.upto Rows.conformStoresSpec).bare Rows.conformStoresUptoRow = true := by
 unfold joinedFacts
 simp only [Bool.and_eq_true]
 repeat' apply And.intro
 all_goals as_aux_lemma => kernel_rfl
end Go.Proofs.YtbkaffhbhimglaaGreat.conformStores
