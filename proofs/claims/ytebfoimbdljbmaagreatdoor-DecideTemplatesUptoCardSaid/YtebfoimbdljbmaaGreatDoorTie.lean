/-
  DERIVED. GIVEN WITH THE SEED: THE PROGRAM's TIES (one call each: nine closed facts by the kernel) AND EACH ROW's TIE, after the 31st guide's Derived/Test/Toyas{Tie, Card}.lean. No idea stands in it: it is a product of the set-up. Laid BY PROGRAM, IN A SANDBOX (cutbox-door.mjs). By AI agents, Wed Nov 11 2026. No macro, syntax, notation, axiom, sorry.
-/
import Derived.Test.YtebfoimbdljbmaaGreatDoorRows
import Derived.LaidByTextLater
import Derived.SevenTiedAt
import Derived.LaidSub
import Derived.LaidOnce
namespace Go.Proofs.YtebfoimbdljbmaaGreatDoor
open Go
set_option maxRecDepth 100000
theorem seatTie1 : Tryz.prog.laidByTextLater [("chamberlain/eval.sums", Rows.laid_chamberlain_eval_sums)] [.funcs] true :=
  Program.laidByTextLater_by_one 29 8 2 (by kernel_rfl) (by kernel_rfl) (by kernel_rfl) (by kernel_rfl) (by kernel_rfl) (by kernel_rfl) (fun _ _ => by kernel_rfl)
theorem noOwnUnsafe : Tryz.pinned.checked.prog.headLifts.contains "ownunsafe" = false := by kernel_rfl
theorem tie : Tryz.prog.laidByTextLater [("chamberlain/eval.sums", Rows.laid_chamberlain_eval_sums)] [.funcs] true :=
  Program.laidByTextLater.sub seatTie1 ["chamberlain/eval.sums"] (by kernel_rfl) (by kernel_rfl)
theorem evalShort_row_tie : Rows.evalShortRow.laidByTextAt .later Tryz.pinned [.funcs] true :=
  OpenClaim.laidByTextAt_later rfl rfl tie noOwnUnsafe
theorem evalTrees_row_tie : Rows.evalTreesRow.laidByTextAt .later Tryz.pinned [.funcs] true :=
  OpenClaim.laidByTextAt_later rfl rfl tie noOwnUnsafe
theorem evalTwo_row_tie : Rows.evalTwoRow.laidByTextAt .later Tryz.pinned [.funcs] true :=
  OpenClaim.laidByTextAt_later rfl rfl tie noOwnUnsafe
theorem evalScopes_row_tie : Rows.evalScopesRow.laidByTextAt .later Tryz.pinned [.funcs] true :=
  OpenClaim.laidByTextAt_later rfl rfl tie noOwnUnsafe
theorem evalAttributes_row_tie : Rows.evalAttributesRow.laidByTextAt .later Tryz.pinned [.funcs] true :=
  OpenClaim.laidByTextAt_later rfl rfl tie noOwnUnsafe
theorem decideTemplates_row_tie : Rows.decideTemplatesRow.laidByTextAt .later Tryz.pinned [.funcs] true :=
  OpenClaim.laidByTextAt_later rfl rfl tie noOwnUnsafe
theorem decideAll_row_tie : Rows.decideAllRow.laidByTextAt .later Tryz.pinned [.funcs] true :=
  OpenClaim.laidByTextAt_later rfl rfl tie noOwnUnsafe
theorem evalShortUpto_row_tie : Rows.evalShortUptoRow.laidByTextAt .later Tryz.pinned [.funcs] true :=
  OpenClaim.laidByTextAt_later rfl rfl tie noOwnUnsafe
theorem evalTreesUpto_row_tie : Rows.evalTreesUptoRow.laidByTextAt .later Tryz.pinned [.funcs] true :=
  OpenClaim.laidByTextAt_later rfl rfl tie noOwnUnsafe
theorem evalTwoUpto_row_tie : Rows.evalTwoUptoRow.laidByTextAt .later Tryz.pinned [.funcs] true :=
  OpenClaim.laidByTextAt_later rfl rfl tie noOwnUnsafe
theorem evalScopesUpto_row_tie : Rows.evalScopesUptoRow.laidByTextAt .later Tryz.pinned [.funcs] true :=
  OpenClaim.laidByTextAt_later rfl rfl tie noOwnUnsafe
theorem evalAttributesUpto_row_tie : Rows.evalAttributesUptoRow.laidByTextAt .later Tryz.pinned [.funcs] true :=
  OpenClaim.laidByTextAt_later rfl rfl tie noOwnUnsafe
theorem decideTemplatesUpto_row_tie : Rows.decideTemplatesUptoRow.laidByTextAt .later Tryz.pinned [.funcs] true :=
  OpenClaim.laidByTextAt_later rfl rfl tie noOwnUnsafe
theorem decideAllUpto_row_tie : Rows.decideAllUptoRow.laidByTextAt .later Tryz.pinned [.funcs] true :=
  OpenClaim.laidByTextAt_later rfl rfl tie noOwnUnsafe
end Go.Proofs.YtebfoimbdljbmaaGreatDoor
