/-
  Expressions that the statements make: literals, operators over a row of kids. The conditions: none (lemmas).
-/
import Derived.Test.YtebfoimbdljbmaaGreatDoorLit14Q
import Derived.Test.YtebfoimbdljbmaaGreatDoorEvLawQ
import Derived.Test.YtebfoimbdljbmaaGreatDoorGf
namespace Go.Proofs.YtebfoimbdljbmaaGreatDoor
open Go.RowKit

def E0 : ByteArray := ByteArray.empty
theorem strs_nil (S : Nat → Prop) (w : World) : StrsAt S w [] (.slice none 0 0) := ⟨none, 0, rfl, by simp, by simp, by simp, by simp, by simp⟩
/-- a literal's cells -/
def litC (vc : List Value) : List Value := .int .i64 1 :: (vc ++ [.string ByteArray.empty, .slice none 0 0, .slice none 0 0])
theorem lit_at {S : Nat → Prop} {w : World} {v : Val} {vc : List Value} (h : Val.At S w v vc) : Exp.At S w (.lit v) (litC vc) :=
  Exp.At.of ⟨by omega, by omega⟩ (by rw [maxLen_eq]; decide) h (Rep.RowsAt.nil _ _) (strs_nil _ _)
/-- an operator's cells -/
def opC (op : Int) (k : Value) : List Value := .int .i64 op :: (zeroCells ++ [.string ByteArray.empty, k, .slice none 0 0])
theorem of_at {S : Nat → Prop} {w : World} {op : Int} {l : List Exp} {k : Value} (ho : I64 op) (h : expR.RowsAt S w l k) : Exp.At S w (.of op l) (opC op k) :=
  Exp.At.of ho (by rw [maxLen_eq]; decide) (Val.zero_at _ _) h (strs_nil _ _)
/-- the request that asks for nothing -/
def reqZ : Req := ⟨(E0, E0), (E0, E0), (E0, E0), .zero⟩
def reqC : List Value := .string ByteArray.empty :: .string ByteArray.empty :: .string ByteArray.empty :: .string ByteArray.empty :: .string ByteArray.empty :: .string ByteArray.empty :: zeroCells
theorem reqZ_at (S : Nat → Prop) (w : World) : Req.At S w reqZ reqC :=
  ⟨zeroCells, rfl, ⟨⟨by rw [maxLen_eq]; decide, by rw [maxLen_eq]; decide⟩, ⟨by rw [maxLen_eq]; decide, by rw [maxLen_eq]; decide⟩, ⟨by rw [maxLen_eq]; decide, by rw [maxLen_eq]; decide⟩⟩, Val.zero_at _ _⟩
/-- a row of kids in a block -/
theorem kids_at {w : World} {l : List Exp} {xs : List Value} {b n cap : Nat} {T : TypeId} {fz : Nat × Nat} (h : w.heap[b]? = some (.cells xs.toArray T fz)) (hf : expR.Flat (fun b => b < w.heap.size) w l xs) (hl : l.length ≤ LIM) (hn : n = l.length) (hc : l.length ≤ cap) (hcm : cap ≤ maxLen) :
    expR.RowsAt (fun b => b < w.heap.size) w l (.slice (some ⟨b, 0, none⟩) n cap) := flat_block h hf (Blk_lt h) hl hn hc hcm
theorem flat_nil {S : Nat → Prop} {w : World} : expR.Flat S w [] [] := rfl
theorem flat_cons {S : Nat → Prop} {w : World} {e : Exp} {l : List Exp} {cs xs : List Value} (h : Exp.At S w e cs) (hf : expR.Flat S w l xs) : expR.Flat S w (e :: l) (cs ++ xs) := ⟨cs, xs, rfl, h, hf⟩
/-- an expression of no request and no entities -/
theorem evalZ_ok (e : Exp) (r : Rs) (w : World) (cs : List Value) (hr : e.eval reqZ [] = r) (hd : e.dep ≤ 1000000) (hl : e.lits 1000000) (he : InX w e cs) (hs : Sums w) :
    Calls Tryz.prog 13 #[.agg cs.toArray, .agg reqC.toArray, .pointer none] w (ValErr r.1 r.2 w) := by
  subst hr
  exact evalM_ok (q := reqZ) (c := []) (by simp) e w cs reqC (.pointer none) hd hl he (reqZ_at _ _) (.inl ⟨rfl, rfl⟩) (by unfold reqZ Val.zero; simp [Val.dep]) hs
theorem Exp.lit_lits {d : Nat} {v : Val} (h : v.dep ≤ d) : (Exp.lit v).lits d := by unfold Exp.lit; simp [Exp.lits, Exp.litsL, h]
theorem Exp.of_lits {d : Nat} {op : Int} {l : List Exp} (hd : 1 ≤ d) (h : ∀ x ∈ l, x.lits d) : (Exp.of op l).lits d := by
  unfold Exp.of
  simp only [Exp.lits, Exp.litsL_iff]
  exact ⟨by unfold Val.zero; simp [Val.dep]; omega, h⟩
/-- the awake's own expressions -/
theorem and_false (x : Exp) (h : x.dep ≤ 40) : (Exp.of 4 [.lit (.truth false), x]).eval reqZ [] = (.truth false, 0) := by
  unfold Exp.eval
  rw [if_neg (by rw [Exp.of_dep]; simp only [Exp.deps, Exp.lit_dep]; omega), short_ev reqZ [] x 0 (by omega) _ rfl]
  rfl
theorem and_bad (n : Int) : (Exp.of 4 [.lit (.truth true), .lit (.whole n)]).eval reqZ [] = (.zero, 30) := by
  unfold Exp.eval
  rw [if_neg (by rw [Exp.of_dep]; simp [Exp.deps, Exp.lit_dep]), Exp.of_ev]
  simp only [List.map_cons, List.map_nil, Exp.lit_ev, canon_truth, canon_whole]
  simp [evOp, badOp, arity, choiceV, someV, Val.truth, Val.whole, Val.kind, Val.bo, no]
theorem add_two : (Exp.of 11 [.lit (.whole 1), .lit (.whole 1)]).eval reqZ [] = (.whole 2, 0) := by
  rw [two_nums _ _ _ _ _ (by omega), two_add, fitI_in (by omega)]
  rfl
end Go.Proofs.YtebfoimbdljbmaaGreatDoor
