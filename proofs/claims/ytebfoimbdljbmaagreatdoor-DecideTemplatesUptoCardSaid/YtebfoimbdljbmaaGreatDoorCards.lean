/-
  DERIVED. GIVEN WITH THE SEED: THE CARDS: each row of YtebfoimbdljbmaaGreatDoorRows.lean that lists a variable, with what it lists TIED to the program's text (the seventh form; the later family's looks); each row that meets fmt, with fmt's text TOLD by the authors' own Lean function (tested against real Go, not proved from fmt's source: count such statements apart). THE CARD IS WHAT COUNTS. Prove the row's statement (the work); the ties are given (YtebfoimbdljbmaaGreatDoorTie.lean); close each card by the builder's one call (the guide's Derived/Test/ToyasCard.lean, 'card_holds'). Laid BY PROGRAM, IN A SANDBOX (cutbox-door.mjs). By AI agents, Wed Nov 11 2026. No macro, syntax, notation, axiom, sorry.
-/
import Derived.Test.YtebfoimbdljbmaaGreatDoorRows
import GoSem.ClaimSeven
namespace Go.Proofs.YtebfoimbdljbmaaGreatDoor
namespace Rows

/-- THE TIED CARD OF 'chamberlainlaw14.EvalShort'. -/
def evalShortCard : Claim7 := { stood := { row := evalShortRow, standIns := [], harness := (true, "757cd051f2217d2037d6ab210f02f741d31e4f559a90a16cf6308336ce030998"), looks := false }, kinds := [], alts := [], laidByText := true, laidKinds := [.funcs], laidTests := true, laidLooks := .later }
def EvalShortCardSaid : Prop := Claim7.holds Tryz.pinned (.plain (OpenSpec.ofChange evalShortSpec)) evalShortCard

/-- THE TIED CARD OF 'chamberlainlaw14.EvalTrees'. -/
def evalTreesCard : Claim7 := { stood := { row := evalTreesRow, standIns := [], harness := (true, "757cd051f2217d2037d6ab210f02f741d31e4f559a90a16cf6308336ce030998"), looks := false }, kinds := [], alts := [], laidByText := true, laidKinds := [.funcs], laidTests := true, laidLooks := .later }
def EvalTreesCardSaid : Prop := Claim7.holds Tryz.pinned (.plain (OpenSpec.ofChange evalTreesSpec)) evalTreesCard

/-- THE TIED CARD OF 'chamberlainlaw14.EvalTwo'. -/
def evalTwoCard : Claim7 := { stood := { row := evalTwoRow, standIns := [], harness := (true, "757cd051f2217d2037d6ab210f02f741d31e4f559a90a16cf6308336ce030998"), looks := false }, kinds := [], alts := [], laidByText := true, laidKinds := [.funcs], laidTests := true, laidLooks := .later }
def EvalTwoCardSaid : Prop := Claim7.holds Tryz.pinned (.plain (OpenSpec.ofChange evalTwoSpec)) evalTwoCard

/-- THE TIED CARD OF 'chamberlainlaw14.EvalScopes'. -/
def evalScopesCard : Claim7 := { stood := { row := evalScopesRow, standIns := [], harness := (true, "757cd051f2217d2037d6ab210f02f741d31e4f559a90a16cf6308336ce030998"), looks := false }, kinds := [], alts := [], laidByText := true, laidKinds := [.funcs], laidTests := true, laidLooks := .later }
def EvalScopesCardSaid : Prop := Claim7.holds Tryz.pinned (.plain (OpenSpec.ofChange evalScopesSpec)) evalScopesCard

/-- THE TIED CARD OF 'chamberlainlaw14.EvalAttributes'. -/
def evalAttributesCard : Claim7 := { stood := { row := evalAttributesRow, standIns := [], harness := (true, "757cd051f2217d2037d6ab210f02f741d31e4f559a90a16cf6308336ce030998"), looks := false }, kinds := [], alts := [], laidByText := true, laidKinds := [.funcs], laidTests := true, laidLooks := .later }
def EvalAttributesCardSaid : Prop := Claim7.holds Tryz.pinned (.plain (OpenSpec.ofChange evalAttributesSpec)) evalAttributesCard

/-- THE TIED CARD OF 'chamberlainlaw16.DecideTemplates'. -/
def decideTemplatesCard : Claim7 := { stood := { row := decideTemplatesRow, standIns := [], harness := (true, "757cd051f2217d2037d6ab210f02f741d31e4f559a90a16cf6308336ce030998"), looks := false }, kinds := [], alts := [], laidByText := true, laidKinds := [.funcs], laidTests := true, laidLooks := .later }
def DecideTemplatesCardSaid : Prop := Claim7.holds Tryz.pinned (.plain (OpenSpec.ofChange decideTemplatesSpec)) decideTemplatesCard

/-- THE TIED CARD OF 'chamberlainlaw16.DecideAll'. -/
def decideAllCard : Claim7 := { stood := { row := decideAllRow, standIns := [], harness := (true, "757cd051f2217d2037d6ab210f02f741d31e4f559a90a16cf6308336ce030998"), looks := false }, kinds := [], alts := [], laidByText := true, laidKinds := [.funcs], laidTests := true, laidLooks := .later }
def DecideAllCardSaid : Prop := Claim7.holds Tryz.pinned (.plain (OpenSpec.ofChange decideAllSpec)) decideAllCard

/-- THE SECOND FORM's CARD OF 'chamberlainlaw14.EvalShort'. -/
def evalShortUptoCard : Claim7 := { stood := { row := evalShortUptoRow, standIns := [], harness := (true, "757cd051f2217d2037d6ab210f02f741d31e4f559a90a16cf6308336ce030998"), looks := false }, kinds := [], alts := [], laidByText := true, laidKinds := [.funcs], laidTests := true, laidLooks := .later }
def EvalShortUptoCardSaid : Prop := Claim7.holds Tryz.pinned (.plain (OpenSpec.upto evalShortSpec)) evalShortUptoCard

/-- THE SECOND FORM's CARD OF 'chamberlainlaw14.EvalTrees'. -/
def evalTreesUptoCard : Claim7 := { stood := { row := evalTreesUptoRow, standIns := [], harness := (true, "757cd051f2217d2037d6ab210f02f741d31e4f559a90a16cf6308336ce030998"), looks := false }, kinds := [], alts := [], laidByText := true, laidKinds := [.funcs], laidTests := true, laidLooks := .later }
def EvalTreesUptoCardSaid : Prop := Claim7.holds Tryz.pinned (.plain (OpenSpec.upto evalTreesSpec)) evalTreesUptoCard

/-- THE SECOND FORM's CARD OF 'chamberlainlaw14.EvalTwo'. -/
def evalTwoUptoCard : Claim7 := { stood := { row := evalTwoUptoRow, standIns := [], harness := (true, "757cd051f2217d2037d6ab210f02f741d31e4f559a90a16cf6308336ce030998"), looks := false }, kinds := [], alts := [], laidByText := true, laidKinds := [.funcs], laidTests := true, laidLooks := .later }
def EvalTwoUptoCardSaid : Prop := Claim7.holds Tryz.pinned (.plain (OpenSpec.upto evalTwoSpec)) evalTwoUptoCard

/-- THE SECOND FORM's CARD OF 'chamberlainlaw14.EvalScopes'. -/
def evalScopesUptoCard : Claim7 := { stood := { row := evalScopesUptoRow, standIns := [], harness := (true, "757cd051f2217d2037d6ab210f02f741d31e4f559a90a16cf6308336ce030998"), looks := false }, kinds := [], alts := [], laidByText := true, laidKinds := [.funcs], laidTests := true, laidLooks := .later }
def EvalScopesUptoCardSaid : Prop := Claim7.holds Tryz.pinned (.plain (OpenSpec.upto evalScopesSpec)) evalScopesUptoCard

/-- THE SECOND FORM's CARD OF 'chamberlainlaw14.EvalAttributes'. -/
def evalAttributesUptoCard : Claim7 := { stood := { row := evalAttributesUptoRow, standIns := [], harness := (true, "757cd051f2217d2037d6ab210f02f741d31e4f559a90a16cf6308336ce030998"), looks := false }, kinds := [], alts := [], laidByText := true, laidKinds := [.funcs], laidTests := true, laidLooks := .later }
def EvalAttributesUptoCardSaid : Prop := Claim7.holds Tryz.pinned (.plain (OpenSpec.upto evalAttributesSpec)) evalAttributesUptoCard

/-- THE SECOND FORM's CARD OF 'chamberlainlaw16.DecideTemplates'. -/
def decideTemplatesUptoCard : Claim7 := { stood := { row := decideTemplatesUptoRow, standIns := [], harness := (true, "757cd051f2217d2037d6ab210f02f741d31e4f559a90a16cf6308336ce030998"), looks := false }, kinds := [], alts := [], laidByText := true, laidKinds := [.funcs], laidTests := true, laidLooks := .later }
def DecideTemplatesUptoCardSaid : Prop := Claim7.holds Tryz.pinned (.plain (OpenSpec.upto decideTemplatesSpec)) decideTemplatesUptoCard

/-- THE SECOND FORM's CARD OF 'chamberlainlaw16.DecideAll'. -/
def decideAllUptoCard : Claim7 := { stood := { row := decideAllUptoRow, standIns := [], harness := (true, "757cd051f2217d2037d6ab210f02f741d31e4f559a90a16cf6308336ce030998"), looks := false }, kinds := [], alts := [], laidByText := true, laidKinds := [.funcs], laidTests := true, laidLooks := .later }
def DecideAllUptoCardSaid : Prop := Claim7.holds Tryz.pinned (.plain (OpenSpec.upto decideAllSpec)) decideAllUptoCard
end Rows
end Go.Proofs.YtebfoimbdljbmaaGreatDoor
