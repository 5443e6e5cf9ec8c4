/-
  NARROWER THAN 'FOR EVERY INPUT', by the rows' own cells (each row's printed sentence says how): EvalNumbers: laid · EvalSets: laid.
  DERIVED. THE GIVEN ROWS OF THIS SEAT. 2 by the template 'for every input the law returns true; each argument reads behind the call as it read before'; 0 by the template 'total and deterministic' (their statements: YtebfoimbdljbmaaDoorTotals.lean).
  GIVEN WITH THE SEED: the statements are not yours to turn. If you find one false, say at which input.
  Laid BY PROGRAM, IN A SANDBOX (cutbox-rows.mjs): the forced cells as the released guide's own fill.sh prints them over the translation 7849a81859022cbf… (all of the seat's roots in one cut). By AI agents, Wed Nov 11 2026. No macro, syntax, notation, axiom, sorry.
-/
import Derived.Test.YtebfoimbdljbmaaDoorChecked
import GoSem.Claim
import GoSem.ClaimJoined
import GoSem.ClaimMapViews
import Derived.JoinedTies
import Derived.KernelRfl
namespace Go.Proofs.YtebfoimbdljbmaaDoor
/- THE CELL 'sum', in the pinned program and in every row, IS THE sha256 OF THE DUMP (.gsa) THAT YtebfoimbdljbmaaDoorProg.lean LOADS. Nothing in Lean hashes anything: it is a label: what it is worth is what the hold of that sum in a sandbox is worth. -/
noncomputable def Tryd.pinned : Pinned := { name := "ytebfoimbdljbmaadoor", sum := "7849a81859022cbf574eb4f64b4bc410f110212ed7409223821b758bdc6c22da", checked := Tryd.checked }
namespace Rows
def none {H : Type} : Left H := { results := [], args := [] }

/- WHAT THE LISTED PACKAGE-LEVEL VARIABLES READ AS WHEN THE CALL BEGINS. Each datum BY PROGRAM (the guide's laid-datum.mjs) off the statement by which the dump's own 'gosem.cut.vars' lays the variable. In a bare row this is a premise. The card (YtebfoimbdljbmaaDoorCards.lean) ties it to the program's text. -/
def laid_chamberlain_eval_sums {H : Type} : DataW H := .iface "func table" (.map [(.int .i64 11, .iface "func" (.lit (.string [99, 104, 97, 109, 98, 101, 114, 108, 97, 105, 110, 47, 105, 110, 116, 115, 46, 65, 100, 100]))), (.int .i64 12, .iface "func" (.lit (.string [99, 104, 97, 109, 98, 101, 114, 108, 97, 105, 110, 47, 105, 110, 116, 115, 46, 83, 117, 98]))), (.int .i64 13, .iface "func" (.lit (.string [99, 104, 97, 109, 98, 101, 114, 108, 97, 105, 110, 47, 105, 110, 116, 115, 46, 77, 117, 108])))])

/-- 'chamberlainlaw14.EvalNumbers': WHATEVER THE INPUT: true; the input reads as it did. -/
def evalNumbersSpec : ChangeSpec := { name := "evalNumbers", fn := fun _ => fun
  | [d1, d2, d3] => { results := [.lit (.bool true)], args := [d1, d2, d3] }
  | _ => none }
def evalNumbersRow : OpenClaim := { program := "ytebfoimbdljbmaadoor", sum := "7849a81859022cbf574eb4f64b4bc410f110212ed7409223821b758bdc6c22da", func := "chamberlain/chamberlainlaw14.EvalNumbers", spec := "evalNumbers", unfollowed := true, recurses := true, named := ["chamberlain/eval.sums"], plainKeys := false, apart := false, laid := [("chamberlain/eval.sums", laid_chamberlain_eval_sums)] }
def EvalNumbersSaid : Prop := evalNumbersRow.holds Tryd.pinned (OpenSpec.ofChange evalNumbersSpec)

/-- ITS FALSE NEIGHBOUR: 'it returns false'. Refute it at one input. -/
def evalNumbersWrong : ChangeSpec := { name := "evalNumbers", fn := fun _ => fun
  | [d1, d2, d3] => { results := [.lit (.bool false)], args := [d1, d2, d3] }
  | _ => none }
def EvalNumbersWrongFalsely : Prop := evalNumbersRow.holds Tryd.pinned (OpenSpec.ofChange evalNumbersWrong)

/-- 'chamberlainlaw14.EvalSets': WHATEVER THE INPUT: true; the input reads as it did. -/
def evalSetsSpec : ChangeSpec := { name := "evalSets", fn := fun _ => fun
  | [d1, d2] => { results := [.lit (.bool true)], args := [d1, d2] }
  | _ => none }
def evalSetsRow : OpenClaim := { program := "ytebfoimbdljbmaadoor", sum := "7849a81859022cbf574eb4f64b4bc410f110212ed7409223821b758bdc6c22da", func := "chamberlain/chamberlainlaw14.EvalSets", spec := "evalSets", unfollowed := true, recurses := true, named := ["chamberlain/eval.sums"], plainKeys := false, apart := false, laid := [("chamberlain/eval.sums", laid_chamberlain_eval_sums)] }
def EvalSetsSaid : Prop := evalSetsRow.holds Tryd.pinned (OpenSpec.ofChange evalSetsSpec)

/-- ITS FALSE NEIGHBOUR: 'it returns false'. Refute it at one input. -/
def evalSetsWrong : ChangeSpec := { name := "evalSets", fn := fun _ => fun
  | [d1, d2] => { results := [.lit (.bool false)], args := [d1, d2] }
  | _ => none }
def EvalSetsWrongFalsely : Prop := evalSetsRow.holds Tryd.pinned (OpenSpec.ofChange evalSetsWrong)

/- THE SECOND FORM. 'bulk': how many values and letters a reading holds, each counted each time it is reached (what is shared counts as often as it is met; a slice's spare places count too). A statement '..UptoSaid' is the law's where the arguments, and the package variables that the reading takes, are together of bulk at most 1048576: NARROWER than '..Said'. Prove '..Said' where nothing that the law and all that it calls make is longer than what came in: it says more and counts as full. Else prove '..UptoSaid'. A law counts once. -/
mutual
def uptoBulk {H : Type} : DataW H → Nat
  | .lit (.string bytes) => bytes.length + 1
  | .lit _ => 1
  | .nil => 1
  | .ptr d => uptoBulk d + 1
  | .slice elems spare => uptoBulkAll elems + uptoBulkAll spare + 1
  | .agg parts => uptoBulkAll parts + 1
  | .iface _ d => uptoBulk d + 1
  | .map entries => uptoBulkEntries entries + 1
  | .held _ => 1
def uptoBulkAll {H : Type} : List (DataW H) → Nat
  | [] => 0
  | d :: r => uptoBulk d + uptoBulkAll r
def uptoBulkEntries {H : Type} : List (Lit × DataW H) → Nat
  | [] => 0
  | x :: r => uptoBulkEntry x + uptoBulkEntries r
def uptoBulkEntry {H : Type} : Lit × DataW H → Nat
  | (.string bytes, d) => bytes.length + uptoBulk d + 1
  | (_, d) => uptoBulk d + 1
 end
def uptoSmall : (H : Type) → List (DataW H) → Bool := fun _ ds => decide (uptoBulkAll ds ≤ 1048576)
def OpenSpec.upto (s : _root_.Go.ChangeSpec) : _root_.Go.OpenSpec := { _root_.Go.OpenSpec.ofChange s with cond := some uptoSmall }

/-- 'chamberlainlaw14.EvalNumbers', WHERE WHAT IT READS IS OF BULK AT MOST 1048576: true; the input reads as it did. -/
def evalNumbersUptoRow : OpenClaim := { program := "ytebfoimbdljbmaadoor", sum := "7849a81859022cbf574eb4f64b4bc410f110212ed7409223821b758bdc6c22da", func := "chamberlain/chamberlainlaw14.EvalNumbers", spec := "evalNumbers", unfollowed := true, recurses := true, named := ["chamberlain/eval.sums"], plainKeys := false, apart := false, laid := [("chamberlain/eval.sums", laid_chamberlain_eval_sums)], narrowed := true }
def EvalNumbersUptoSaid : Prop := evalNumbersUptoRow.holds Tryd.pinned (OpenSpec.upto evalNumbersSpec)

/-- 'chamberlainlaw14.EvalSets', WHERE WHAT IT READS IS OF BULK AT MOST 1048576: true; the input reads as it did. -/
def evalSetsUptoRow : OpenClaim := { program := "ytebfoimbdljbmaadoor", sum := "7849a81859022cbf574eb4f64b4bc410f110212ed7409223821b758bdc6c22da", func := "chamberlain/chamberlainlaw14.EvalSets", spec := "evalSets", unfollowed := true, recurses := true, named := ["chamberlain/eval.sums"], plainKeys := false, apart := false, laid := [("chamberlain/eval.sums", laid_chamberlain_eval_sums)], narrowed := true }
def EvalSetsUptoSaid : Prop := evalSetsUptoRow.holds Tryd.pinned (OpenSpec.upto evalSetsSpec)

end Rows
end Go.Proofs.YtebfoimbdljbmaaDoor
