/-
  What the statements' own expressions come to: numbers, sets of numbers, choices. No program in sight. The conditions: none (lemmas).
-/
import Derived.Test.YtebfoimbdljbmaaGreatDoorEvQ
namespace Go.Proofs.YtebfoimbdljbmaaGreatDoor
open Go.RowKit

/-- a literal -/
def Exp.lit (v : Val) : Exp := .mk 1 v ByteArray.empty [] []
def Exp.of (op : Int) (kids : List Exp) : Exp := .mk op .zero ByteArray.empty kids []
theorem canon_whole (n : Int) : (Val.whole n).canon = (.whole n, 0) := by
  unfold Val.canon
  rw [if_neg (by unfold Val.whole; simp [Val.dep]), Val.can_of_is (Val.whole_is n)]
theorem canon_truth (b : Bool) : (Val.truth b).canon = (.truth b, 0) := by
  unfold Val.canon
  rw [if_neg (by unfold Val.truth; simp [Val.dep]), Val.can_of_is (Val.truth_is b)]
theorem Exp.lit_ev (q : Req) (c : List Ent) (v : Val) : (Exp.lit v).ev q c = v.canon := by
  rw [Exp.ev_def]
  simp [Exp.lit, Exp.op, Exp.v, Exp.names, Exp.kids, evOp, badOp, arity]
theorem Exp.lit_dep (v : Val) : (Exp.lit v).dep = 1 := by simp [Exp.lit, Exp.dep, Exp.deps]
theorem Exp.of_dep (op : Int) (kids : List Exp) : (Exp.of op kids).dep = Exp.deps kids + 1 := by simp [Exp.of, Exp.dep]
theorem Exp.of_ev (q : Req) (c : List Ent) (op : Int) (kids : List Exp) : (Exp.of op kids).ev q c = evOp q c op .zero ByteArray.empty [] (kids.map (Exp.ev q c)) := by
  rw [Exp.ev_def]; rfl
/-- an operator of two numbers -/
theorem two_nums (q : Req) (c : List Ent) (op a b : Int) (h : op = 9 ∨ op = 10 ∨ op = 11 ∨ op = 12 ∨ op = 13) : (Exp.of op [.lit (.whole a), .lit (.whole b)]).eval q c = twoV c op (.whole a) (.whole b) := by
  unfold Exp.eval
  rw [if_neg (by rw [Exp.of_dep]; simp [Exp.deps, Exp.lit_dep]), Exp.of_ev]
  simp only [List.map_cons, List.map_nil, Exp.lit_ev, canon_whole]
  rcases h with rfl | rfl | rfl | rfl | rfl <;> simp [evOp, badOp, arity, allV]
theorem fitI_in {n : Int} (h : -9223372036854775808 ≤ n ∧ n ≤ 9223372036854775807) : fitI n = (.whole n, 0) := by unfold fitI; rw [if_pos h]
theorem two_add (c : List Ent) (a b : Int) : twoV c 11 (.whole a) (.whole b) = fitI (a + b) := by simp [twoV, Val.whole, Val.kind, Val.num]
/-- what isn't asked for -/
theorem short_ev (q : Req) (c : List Ent) (x : Exp) (w : Nat) (hw : w < 4) : ∀ e : Exp, ([Exp.of 4 [.lit (.truth false), x], Exp.of 5 [.lit (.truth true), x], Exp.of 7 [.lit (.truth true), .lit (.truth true), x], Exp.of 7 [.lit (.truth false), x, .lit (.truth true)]] : List Exp)[w]? = some e →
    e.ev q c = yes (decide (0 < w)) := by
  intro e he
  rcases (by omega : w = 0 ∨ w = 1 ∨ w = 2 ∨ w = 3) with rfl | rfl | rfl | rfl <;> simp at he <;> subst he <;> rw [Exp.of_ev] <;>
    simp only [List.map_cons, List.map_nil, Exp.lit_ev, canon_truth] <;> simp [evOp, badOp, arity, choiceV, someV, Val.truth, Val.kind, Val.bo, yes]
end Go.Proofs.YtebfoimbdljbmaaGreatDoor
