/-
  DERIVED. GIVEN WITH THE SEED: THE CARDS: each row of YtebfoimbdljbmaaDoorRows.lean that lists a variable, with what it lists TIED to the program's text (the seventh form; the later family's looks); each row that meets fmt, with fmt's text TOLD by the authors' own Lean function (tested against real Go, not proved from fmt's source: count such statements apart). THE CARD IS WHAT COUNTS. Prove the row's statement (the work); the ties are given (YtebfoimbdljbmaaDoorTie.lean); close each card by the builder's one call (the guide's Derived/Test/ToyasCard.lean, 'card_holds'). Laid BY PROGRAM, IN A SANDBOX (cutbox-door.mjs). By AI agents, Wed Nov 11 2026. No macro, syntax, notation, axiom, sorry.
-/
import Derived.Test.YtebfoimbdljbmaaDoorRows
import GoSem.ClaimSeven
namespace Go.Proofs.YtebfoimbdljbmaaDoor
namespace Rows

/-- THE TIED CARD OF 'chamberlainlaw14.EvalNumbers'. -/
def evalNumbersCard : Claim7 := { stood := { row := evalNumbersRow, standIns := [], harness := (true, "ce44fa7a3f0c956ca6423d6869e60e2ae08fd9522fa3988326698ac67e1ff2a8"), looks := false }, kinds := [], alts := [], laidByText := true, laidKinds := [.funcs], laidTests := true, laidLooks := .later }
def EvalNumbersCardSaid : Prop := Claim7.holds Tryd.pinned (.plain (OpenSpec.ofChange evalNumbersSpec)) evalNumbersCard

/-- THE TIED CARD OF 'chamberlainlaw14.EvalSets'. -/
def evalSetsCard : Claim7 := { stood := { row := evalSetsRow, standIns := [], harness := (true, "ce44fa7a3f0c956ca6423d6869e60e2ae08fd9522fa3988326698ac67e1ff2a8"), looks := false }, kinds := [], alts := [], laidByText := true, laidKinds := [.funcs], laidTests := true, laidLooks := .later }
def EvalSetsCardSaid : Prop := Claim7.holds Tryd.pinned (.plain (OpenSpec.ofChange evalSetsSpec)) evalSetsCard

/-- THE SECOND FORM's CARD OF 'chamberlainlaw14.EvalNumbers'. -/
def evalNumbersUptoCard : Claim7 := { stood := { row := evalNumbersUptoRow, standIns := [], harness := (true, "ce44fa7a3f0c956ca6423d6869e60e2ae08fd9522fa3988326698ac67e1ff2a8"), looks := false }, kinds := [], alts := [], laidByText := true, laidKinds := [.funcs], laidTests := true, laidLooks := .later }
def EvalNumbersUptoCardSaid : Prop := Claim7.holds Tryd.pinned (.plain (OpenSpec.upto evalNumbersSpec)) evalNumbersUptoCard

/-- THE SECOND FORM's CARD OF 'chamberlainlaw14.EvalSets'. -/
def evalSetsUptoCard : Claim7 := { stood := { row := evalSetsUptoRow, standIns := [], harness := (true, "ce44fa7a3f0c956ca6423d6869e60e2ae08fd9522fa3988326698ac67e1ff2a8"), looks := false }, kinds := [], alts := [], laidByText := true, laidKinds := [.funcs], laidTests := true, laidLooks := .later }
def EvalSetsUptoCardSaid : Prop := Claim7.holds Tryd.pinned (.plain (OpenSpec.upto evalSetsSpec)) evalSetsUptoCard
end Rows
end Go.Proofs.YtebfoimbdljbmaaDoor
