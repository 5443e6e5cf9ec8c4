/-
  NARROWER THAN 'FOR EVERY INPUT', by the rows' own cells (each row's printed sentence says how): EvalShort: loops, laid · EvalTrees: loops, laid · EvalTwo: loops, laid · EvalScopes: loops, laid · EvalAttributes: loops, laid · DecideTemplates: loops, laid · DecideAll: loops, laid.
  DERIVED. THE GIVEN ROWS OF THIS SEAT. 7 by the template 'for every input the law returns true; each argument reads behind the call as it read before'; 0 by the template 'total and deterministic' (their statements: YtebfoimbdljbmaaGreatDoorTotals.lean).
  GIVEN WITH THE SEED: the statements are not yours to turn. If you find one false, say at which input.
  Laid BY PROGRAM, IN A SANDBOX (cutbox-rows.mjs): the forced cells as the released guide's own fill.sh prints them over the translation 7016acbd23a3c746… (all of the seat's roots in one cut). By AI agents, Wed Nov 11 2026. No macro, syntax, notation, axiom, sorry.
-/
import Derived.Test.YtebfoimbdljbmaaGreatDoorChecked
import GoSem.Claim
import GoSem.ClaimJoined
import GoSem.ClaimMapViews
import Derived.JoinedTies
import Derived.KernelRfl
namespace Go.Proofs.YtebfoimbdljbmaaGreatDoor
/- THE CELL 'sum', in the pinned program and in every row, IS THE sha256 OF THE DUMP (.gsa) THAT YtebfoimbdljbmaaGreatDoorProg.lean LOADS. Nothing in Lean hashes anything: it is a label: what it is worth is what the hold of that sum in a sandbox is worth. -/
noncomputable def Tryz.pinned : Pinned := { name := "ytebfoimbdljbmaagreatdoor", sum := "7016acbd23a3c7460296d1217fca7d954f9680fdd2b0597062f839e7c7d3f711", checked := Tryz.checked }
namespace Rows
def none {H : Type} : Left H := { results := [], args := [] }

/- WHAT THE LISTED PACKAGE-LEVEL VARIABLES READ AS WHEN THE CALL BEGINS. Each datum BY PROGRAM (the guide's laid-datum.mjs) off the statement by which the dump's own 'gosem.cut.vars' lays the variable. In a bare row this is a premise. The card (YtebfoimbdljbmaaGreatDoorCards.lean) ties it to the program's text. -/
def laid_chamberlain_eval_sums {H : Type} : DataW H := .iface "func table" (.map [(.int .i64 11, .iface "func" (.lit (.string [99, 104, 97, 109, 98, 101, 114, 108, 97, 105, 110, 47, 105, 110, 116, 115, 46, 65, 100, 100]))), (.int .i64 12, .iface "func" (.lit (.string [99, 104, 97, 109, 98, 101, 114, 108, 97, 105, 110, 47, 105, 110, 116, 115, 46, 83, 117, 98]))), (.int .i64 13, .iface "func" (.lit (.string [99, 104, 97, 109, 98, 101, 114, 108, 97, 105, 110, 47, 105, 110, 116, 115, 46, 77, 117, 108])))])

/-- 'chamberlainlaw14.EvalShort': WHATEVER THE INPUT: true; the input reads as it did. -/
def evalShortSpec : ChangeSpec := { name := "evalShort", fn := fun _ => fun
  | [d1, d2] => { results := [.lit (.bool true)], args := [d1, d2] }
  | _ => none }
def evalShortRow : OpenClaim := { program := "ytebfoimbdljbmaagreatdoor", sum := "7016acbd23a3c7460296d1217fca7d954f9680fdd2b0597062f839e7c7d3f711", func := "chamberlain/chamberlainlaw14.EvalShort", spec := "evalShort", unfollowed := true, recurses := true, named := ["chamberlain/eval.sums"], loops := true, plainKeys := false, apart := false, laid := [("chamberlain/eval.sums", laid_chamberlain_eval_sums)] }
def EvalShortSaid : Prop := evalShortRow.holds Tryz.pinned (OpenSpec.ofChange evalShortSpec)

/-- ITS FALSE NEIGHBOUR: 'it returns false'. Refute it at one input. -/
def evalShortWrong : ChangeSpec := { name := "evalShort", fn := fun _ => fun
  | [d1, d2] => { results := [.lit (.bool false)], args := [d1, d2] }
  | _ => none }
def EvalShortWrongFalsely : Prop := evalShortRow.holds Tryz.pinned (OpenSpec.ofChange evalShortWrong)

/-- 'chamberlainlaw14.EvalTrees': WHATEVER THE INPUT: true; the input reads as it did. -/
def evalTreesSpec : ChangeSpec := { name := "evalTrees", fn := fun _ => fun
  | [d1, d2, d3] => { results := [.lit (.bool true)], args := [d1, d2, d3] }
  | _ => none }
def evalTreesRow : OpenClaim := { program := "ytebfoimbdljbmaagreatdoor", sum := "7016acbd23a3c7460296d1217fca7d954f9680fdd2b0597062f839e7c7d3f711", func := "chamberlain/chamberlainlaw14.EvalTrees", spec := "evalTrees", unfollowed := true, recurses := true, named := ["chamberlain/eval.sums"], loops := true, plainKeys := false, apart := false, laid := [("chamberlain/eval.sums", laid_chamberlain_eval_sums)] }
def EvalTreesSaid : Prop := evalTreesRow.holds Tryz.pinned (OpenSpec.ofChange evalTreesSpec)

/-- ITS FALSE NEIGHBOUR: 'it returns false'. Refute it at one input. -/
def evalTreesWrong : ChangeSpec := { name := "evalTrees", fn := fun _ => fun
  | [d1, d2, d3] => { results := [.lit (.bool false)], args := [d1, d2, d3] }
  | _ => none }
def EvalTreesWrongFalsely : Prop := evalTreesRow.holds Tryz.pinned (OpenSpec.ofChange evalTreesWrong)

/-- 'chamberlainlaw14.EvalTwo': WHATEVER THE INPUT: true; the input reads as it did. -/
def evalTwoSpec : ChangeSpec := { name := "evalTwo", fn := fun _ => fun
  | [d1, d2, d3, d4] => { results := [.lit (.bool true)], args := [d1, d2, d3, d4] }
  | _ => none }
def evalTwoRow : OpenClaim := { program := "ytebfoimbdljbmaagreatdoor", sum := "7016acbd23a3c7460296d1217fca7d954f9680fdd2b0597062f839e7c7d3f711", func := "chamberlain/chamberlainlaw14.EvalTwo", spec := "evalTwo", unfollowed := true, recurses := true, named := ["chamberlain/eval.sums"], loops := true, plainKeys := false, apart := false, laid := [("chamberlain/eval.sums", laid_chamberlain_eval_sums)] }
def EvalTwoSaid : Prop := evalTwoRow.holds Tryz.pinned (OpenSpec.ofChange evalTwoSpec)

/-- ITS FALSE NEIGHBOUR: 'it returns false'. Refute it at one input. -/
def evalTwoWrong : ChangeSpec := { name := "evalTwo", fn := fun _ => fun
  | [d1, d2, d3, d4] => { results := [.lit (.bool false)], args := [d1, d2, d3, d4] }
  | _ => none }
def EvalTwoWrongFalsely : Prop := evalTwoRow.holds Tryz.pinned (OpenSpec.ofChange evalTwoWrong)

/-- 'chamberlainlaw14.EvalScopes': WHATEVER THE INPUT: true; the input reads as it did. -/
def evalScopesSpec : ChangeSpec := { name := "evalScopes", fn := fun _ => fun
  | [d1, d2, d3] => { results := [.lit (.bool true)], args := [d1, d2, d3] }
  | _ => none }
def evalScopesRow : OpenClaim := { program := "ytebfoimbdljbmaagreatdoor", sum := "7016acbd23a3c7460296d1217fca7d954f9680fdd2b0597062f839e7c7d3f711", func := "chamberlain/chamberlainlaw14.EvalScopes", spec := "evalScopes", unfollowed := true, recurses := true, named := ["chamberlain/eval.sums"], loops := true, plainKeys := false, apart := false, laid := [("chamberlain/eval.sums", laid_chamberlain_eval_sums)] }
def EvalScopesSaid : Prop := evalScopesRow.holds Tryz.pinned (OpenSpec.ofChange evalScopesSpec)

/-- ITS FALSE NEIGHBOUR: 'it returns false'. Refute it at one input. -/
def evalScopesWrong : ChangeSpec := { name := "evalScopes", fn := fun _ => fun
  | [d1, d2, d3] => { results := [.lit (.bool false)], args := [d1, d2, d3] }
  | _ => none }
def EvalScopesWrongFalsely : Prop := evalScopesRow.holds Tryz.pinned (OpenSpec.ofChange evalScopesWrong)

/-- 'chamberlainlaw14.EvalAttributes': WHATEVER THE INPUT: true; the input reads as it did. -/
def evalAttributesSpec : ChangeSpec := { name := "evalAttributes", fn := fun _ => fun
  | [d1, d2, d3, d4, d5] => { results := [.lit (.bool true)], args := [d1, d2, d3, d4, d5] }
  | _ => none }
def evalAttributesRow : OpenClaim := { program := "ytebfoimbdljbmaagreatdoor", sum := "7016acbd23a3c7460296d1217fca7d954f9680fdd2b0597062f839e7c7d3f711", func := "chamberlain/chamberlainlaw14.EvalAttributes", spec := "evalAttributes", unfollowed := true, recurses := true, named := ["chamberlain/eval.sums"], loops := true, plainKeys := false, apart := false, laid := [("chamberlain/eval.sums", laid_chamberlain_eval_sums)] }
def EvalAttributesSaid : Prop := evalAttributesRow.holds Tryz.pinned (OpenSpec.ofChange evalAttributesSpec)

/-- ITS FALSE NEIGHBOUR: 'it returns false'. Refute it at one input. -/
def evalAttributesWrong : ChangeSpec := { name := "evalAttributes", fn := fun _ => fun
  | [d1, d2, d3, d4, d5] => { results := [.lit (.bool false)], args := [d1, d2, d3, d4, d5] }
  | _ => none }
def EvalAttributesWrongFalsely : Prop := evalAttributesRow.holds Tryz.pinned (OpenSpec.ofChange evalAttributesWrong)

/-- 'chamberlainlaw16.DecideTemplates': WHATEVER THE INPUT: true; the input reads as it did. -/
def decideTemplatesSpec : ChangeSpec := { name := "decideTemplates", fn := fun _ => fun
  | [d1, d2, d3] => { results := [.lit (.bool true)], args := [d1, d2, d3] }
  | _ => none }
def decideTemplatesRow : OpenClaim := { program := "ytebfoimbdljbmaagreatdoor", sum := "7016acbd23a3c7460296d1217fca7d954f9680fdd2b0597062f839e7c7d3f711", func := "chamberlain/chamberlainlaw16.DecideTemplates", spec := "decideTemplates", unfollowed := true, recurses := true, named := ["chamberlain/eval.sums"], loops := true, plainKeys := false, apart := false, laid := [("chamberlain/eval.sums", laid_chamberlain_eval_sums)] }
def DecideTemplatesSaid : Prop := decideTemplatesRow.holds Tryz.pinned (OpenSpec.ofChange decideTemplatesSpec)

/-- ITS FALSE NEIGHBOUR: 'it returns false'. Refute it at one input. -/
def decideTemplatesWrong : ChangeSpec := { name := "decideTemplates", fn := fun _ => fun
  | [d1, d2, d3] => { results := [.lit (.bool false)], args := [d1, d2, d3] }
  | _ => none }
def DecideTemplatesWrongFalsely : Prop := decideTemplatesRow.holds Tryz.pinned (OpenSpec.ofChange decideTemplatesWrong)

/-- 'chamberlainlaw16.DecideAll': WHATEVER THE INPUT: true; the input reads as it did. -/
def decideAllSpec : ChangeSpec := { name := "decideAll", fn := fun _ => fun
  | [d1, d2, d3] => { results := [.lit (.bool true)], args := [d1, d2, d3] }
  | _ => none }
def decideAllRow : OpenClaim := { program := "ytebfoimbdljbmaagreatdoor", sum := "7016acbd23a3c7460296d1217fca7d954f9680fdd2b0597062f839e7c7d3f711", func := "chamberlain/chamberlainlaw16.DecideAll", spec := "decideAll", unfollowed := true, recurses := true, named := ["chamberlain/eval.sums"], loops := true, plainKeys := false, apart := false, laid := [("chamberlain/eval.sums", laid_chamberlain_eval_sums)] }
def DecideAllSaid : Prop := decideAllRow.holds Tryz.pinned (OpenSpec.ofChange decideAllSpec)

/-- ITS FALSE NEIGHBOUR: 'it returns false'. Refute it at one input. -/
def decideAllWrong : ChangeSpec := { name := "decideAll", fn := fun _ => fun
  | [d1, d2, d3] => { results := [.lit (.bool false)], args := [d1, d2, d3] }
  | _ => none }
def DecideAllWrongFalsely : Prop := decideAllRow.holds Tryz.pinned (OpenSpec.ofChange decideAllWrong)

/- THE SECOND FORM. 'bulk': how many values and letters a reading holds, each counted each time it is reached (what is shared counts as often as it is met; a slice's spare places count too). A statement '..UptoSaid' is the law's where the arguments, and the package variables that the reading takes, are together of bulk at most 1048576: NARROWER than '..Said'. Prove '..Said' where nothing that the law and all that it calls make is longer than what came in: it says more and counts as full. Else prove '..UptoSaid'. A law counts once. -/
mutual
def uptoBulk {H : Type} : DataW H → Nat
  | .lit (.string bytes) => bytes.length + 1
  | .lit _ => 1
  | .nil => 1
  | .ptr d => uptoBulk d + 1
  | .slice elems spare => uptoBulkAll elems + uptoBulkAll spare + 1
  | .agg parts => uptoBulkAll parts + 1
  | .iface _ d => uptoBulk d + 1
  | .map entries => uptoBulkEntries entries + 1
  | .held _ => 1
def uptoBulkAll {H : Type} : List (DataW H) → Nat
  | [] => 0
  | d :: r => uptoBulk d + uptoBulkAll r
def uptoBulkEntries {H : Type} : List (Lit × DataW H) → Nat
  | [] => 0
  | x :: r => uptoBulkEntry x + uptoBulkEntries r
def uptoBulkEntry {H : Type} : Lit × DataW H → Nat
  | (.string bytes, d) => bytes.length + uptoBulk d + 1
  | (_, d) => uptoBulk d + 1
 end
def uptoSmall : (H : Type) → List (DataW H) → Bool := fun _ ds => decide (uptoBulkAll ds ≤ 1048576)
def OpenSpec.upto (s : _root_.Go.ChangeSpec) : _root_.Go.OpenSpec := { _root_.Go.OpenSpec.ofChange s with cond := some uptoSmall }

/-- 'chamberlainlaw14.EvalShort', WHERE WHAT IT READS IS OF BULK AT MOST 1048576: true; the input reads as it did. -/
def evalShortUptoRow : OpenClaim := { program := "ytebfoimbdljbmaagreatdoor", sum := "7016acbd23a3c7460296d1217fca7d954f9680fdd2b0597062f839e7c7d3f711", func := "chamberlain/chamberlainlaw14.EvalShort", spec := "evalShort", unfollowed := true, recurses := true, named := ["chamberlain/eval.sums"], loops := true, plainKeys := false, apart := false, laid := [("chamberlain/eval.sums", laid_chamberlain_eval_sums)], narrowed := true }
def EvalShortUptoSaid : Prop := evalShortUptoRow.holds Tryz.pinned (OpenSpec.upto evalShortSpec)

/-- 'chamberlainlaw14.EvalTrees', WHERE WHAT IT READS IS OF BULK AT MOST 1048576: true; the input reads as it did. -/
def evalTreesUptoRow : OpenClaim := { program := "ytebfoimbdljbmaagreatdoor", sum := "7016acbd23a3c7460296d1217fca7d954f9680fdd2b0597062f839e7c7d3f711", func := "chamberlain/chamberlainlaw14.EvalTrees", spec := "evalTrees", unfollowed := true, recurses := true, named := ["chamberlain/eval.sums"], loops := true, plainKeys := false, apart := false, laid := [("chamberlain/eval.sums", laid_chamberlain_eval_sums)], narrowed := true }
def EvalTreesUptoSaid : Prop := evalTreesUptoRow.holds Tryz.pinned (OpenSpec.upto evalTreesSpec)

/-- 'chamberlainlaw14.EvalTwo', WHERE WHAT IT READS IS OF BULK AT MOST 1048576: true; the input reads as it did. -/
def evalTwoUptoRow : OpenClaim := { program := "ytebfoimbdljbmaagreatdoor", sum := "7016acbd23a3c7460296d1217fca7d954f9680fdd2b0597062f839e7c7d3f711", func := "chamberlain/chamberlainlaw14.EvalTwo", spec := "evalTwo", unfollowed := true, recurses := true, named := ["chamberlain/eval.sums"], loops := true, plainKeys := false, apart := false, laid := [("chamberlain/eval.sums", laid_chamberlain_eval_sums)], narrowed := true }
def EvalTwoUptoSaid : Prop := evalTwoUptoRow.holds Tryz.pinned (OpenSpec.upto evalTwoSpec)

/-- 'chamberlainlaw14.EvalScopes', WHERE WHAT IT READS IS OF BULK AT MOST 1048576: true; the input reads as it did. -/
def evalScopesUptoRow : OpenClaim := { program := "ytebfoimbdljbmaagreatdoor", sum := "7016acbd23a3c7460296d1217fca7d954f9680fdd2b0597062f839e7c7d3f711", func := "chamberlain/chamberlainlaw14.EvalScopes", spec := "evalScopes", unfollowed := true, recurses := true, named := ["chamberlain/eval.sums"], loops := true, plainKeys := false, apart := false, laid := [("chamberlain/eval.sums", laid_chamberlain_eval_sums)], narrowed := true }
def EvalScopesUptoSaid : Prop := evalScopesUptoRow.holds Tryz.pinned (OpenSpec.upto evalScopesSpec)

/-- 'chamberlainlaw14.EvalAttributes', WHERE WHAT IT READS IS OF BULK AT MOST 1048576: true; the input reads as it did. -/
def evalAttributesUptoRow : OpenClaim := { program := "ytebfoimbdljbmaagreatdoor", sum := "7016acbd23a3c7460296d1217fca7d954f9680fdd2b0597062f839e7c7d3f711", func := "chamberlain/chamberlainlaw14.EvalAttributes", spec := "evalAttributes", unfollowed := true, recurses := true, named := ["chamberlain/eval.sums"], loops := true, plainKeys := false, apart := false, laid := [("chamberlain/eval.sums", laid_chamberlain_eval_sums)], narrowed := true }
def EvalAttributesUptoSaid : Prop := evalAttributesUptoRow.holds Tryz.pinned (OpenSpec.upto evalAttributesSpec)

/-- 'chamberlainlaw16.DecideTemplates', WHERE WHAT IT READS IS OF BULK AT MOST 1048576: true; the input reads as it did. -/
def decideTemplatesUptoRow : OpenClaim := { program := "ytebfoimbdljbmaagreatdoor", sum := "7016acbd23a3c7460296d1217fca7d954f9680fdd2b0597062f839e7c7d3f711", func := "chamberlain/chamberlainlaw16.DecideTemplates", spec := "decideTemplates", unfollowed := true, recurses := true, named := ["chamberlain/eval.sums"], loops := true, plainKeys := false, apart := false, laid := [("chamberlain/eval.sums", laid_chamberlain_eval_sums)], narrowed := true }
def DecideTemplatesUptoSaid : Prop := decideTemplatesUptoRow.holds Tryz.pinned (OpenSpec.upto decideTemplatesSpec)

/-- 'chamberlainlaw16.DecideAll', WHERE WHAT IT READS IS OF BULK AT MOST 1048576: true; the input reads as it did. -/
def decideAllUptoRow : OpenClaim := { program := "ytebfoimbdljbmaagreatdoor", sum := "7016acbd23a3c7460296d1217fca7d954f9680fdd2b0597062f839e7c7d3f711", func := "chamberlain/chamberlainlaw16.DecideAll", spec := "decideAll", unfollowed := true, recurses := true, named := ["chamberlain/eval.sums"], loops := true, plainKeys := false, apart := false, laid := [("chamberlain/eval.sums", laid_chamberlain_eval_sums)], narrowed := true }
def DecideAllUptoSaid : Prop := decideAllUptoRow.holds Tryz.pinned (OpenSpec.upto decideAllSpec)

end Rows
end Go.Proofs.YtebfoimbdljbmaaGreatDoor
