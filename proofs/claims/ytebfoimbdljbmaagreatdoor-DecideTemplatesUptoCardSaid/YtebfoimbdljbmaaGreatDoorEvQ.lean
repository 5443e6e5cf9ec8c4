/-
  What an expression comes to, as plain data: of a request and of entities. No program in sight. The conditions: none (definitions and lemmas).
-/
import Derived.Test.YtebfoimbdljbmaaGreatDoorExpQ
import Derived.Test.YtebfoimbdljbmaaGreatDoorGk
import Derived.Test.YtebfoimbdljbmaaGreatDoorGj
namespace Go.Proofs.YtebfoimbdljbmaaGreatDoor
open Go.RowKit
abbrev Rs := Val × Int
def Val.truth (b : Bool) : Val := .mk 1 b 0 ByteArray.empty ByteArray.empty ByteArray.empty [] []
def Val.whole (n : Int) : Val := .mk 2 false n ByteArray.empty ByteArray.empty ByteArray.empty [] []
def Val.ofU (u : Uid) : Val := .mk 4 false 0 ByteArray.empty u.1 u.2 [] []
def Val.uid (v : Val) : Uid := (v.ut, v.ui)
def no (e : Int) : Rs := (.zero, e)
def yes (b : Bool) : Rs := (.truth b, 0)
def varV (q : Req) (name : ByteArray) : Rs :=
 if name.toList = [112, 114, 105, 110, 99, 105, 112, 97, 108] then (.ofU q.pr, 0) else
 if name.toList = [97, 99, 116, 105, 111, 110] then (.ofU q.act, 0) else
 if name.toList = [114, 101, 115, 111, 117, 114, 99, 101] then (.ofU q.res, 0) else
 if name.toList = [99, 111, 110, 116, 101, 120, 116] then q.ctx.canon else no 1
def arity (op : Int) : Int :=
 if op < 1 ∨ 23 < op then 4 else if op ≤ 3 then 0 else if op = 6 ∨ op = 14 ∨ (16 ≤ op ∧ op ≤ 18) then 1 else if op = 7 then 3 else if op = 19 ∨ op = 20 then -1 else 2
def badOp (op : Int) (kids names : Nat) : Bool := decide (3 < arity op) || ((decide (0 ≤ arity op) && decide ((kids : Int) ≠ arity op)) || (decide (op = 20) && decide (names ≠ kids)))
def someV (r : Rs) (k : Int) : Rs := if r.2 ≠ 0 then no r.2 else if r.1.kind ≠ k then no 30 else r
def allV : List Rs → List Val × Int
 | [] => ([], 0)
 | r :: l => if r.2 ≠ 0 then ([], r.2) else if (allV l).2 ≠ 0 then ([], (allV l).2) else (r.1 :: (allV l).1, 0)
def choiceV (op : Int) (a b d : Rs) : Rs :=
 if (someV a 1).2 ≠ 0 then no (someV a 1).2 else if op = 7 then (if a.1.bo then b else d) else if a.1.bo = decide (op = 5) then (a.1, 0) else someV b 1
def attrsV (c : List Ent) (v : Val) : Val × Bool × Int :=
 if v.kind = 6 then (v, true, 0) else
 if v.kind = 4 then match idx (c.map Ent.uid) v.uid with
  | none => (.zero, false, 0)
  | some i => match c[i]? with
   | none => (.zero, false, 0)
   | some x => (x.av, true, 0)
 else (.zero, false, 30)
def attributeV (c : List Ent) (op : Int) (name : ByteArray) (v : Val) : Rs :=
 if (attrsV c v).2.2 ≠ 0 then no (attrsV c v).2.2 else
 if op = 17 then yes ((attrsV c v).2.1 && ((attrsV c v).1.find name).isSome) else
 if (attrsV c v).2.1 = false then no 22 else
 match (attrsV c v).1.find name with
 | none => no 31
 | some i => ((((attrsV c v).1.items[i]?).getD .zero), 0)
noncomputable def withinV (c : List Ent) (a b : Val) : Rs :=
 if a.kind ≠ 4 ∨ (if b.kind = 5 then b.items else [b]).any (fun x => x.kind != 4) then no 30 else yes ((if b.kind = 5 then b.items else [b]).any fun x => inB c a.uid x.uid)
def setsV (op : Int) (a b : Val) : Rs :=
 if a.kind ≠ 5 ∨ (op ≠ 21 ∧ b.kind ≠ 5) then no 30 else
 if op = 21 then yes (a.holds b) else if op = 23 then yes (b.items.any fun x => a.holds x) else yes (!(b.items.any fun x => !(a.holds x)))
def fitI (n : Int) : Rs := if -9223372036854775808 ≤ n ∧ n ≤ 9223372036854775807 then (.whole n, 0) else no 14
noncomputable def twoV (c : List Ent) (op : Int) (a b : Val) : Rs :=
 if op = 8 then yes (a.ord b == 0) else
 if op = 15 then withinV c a b else
 if op = 21 ∨ op = 22 ∨ op = 23 then setsV op a b else
 if a.kind ≠ 2 ∨ b.kind ≠ 2 then no 30 else
 if op = 9 then yes (decide (a.num < b.num)) else
 if op = 10 then yes (decide (a.num ≤ b.num)) else
 if op = 11 then fitI (a.num + b.num) else
 if op = 12 then fitI (a.num - b.num) else fitI (a.num * b.num)
def oneV (c : List Ent) (op : Int) (name : ByteArray) (a : Val) : Rs :=
 if op = 17 ∨ op = 18 then attributeV c op name a else
 if op = 6 then (if a.kind = 1 then yes (!a.bo) else no 30) else
 if op = 16 then (if a.kind = 4 then yes (decide (a.ut = name)) else no 30) else
 if op = 14 then (if a.kind = 2 then fitI (-a.num) else no 30) else no 30
noncomputable def evOp (q : Req) (c : List Ent) (op : Int) (v : Val) (name : ByteArray) (names : List ByteArray) (rs : List Rs) : Rs :=
 if badOp op rs.length names.length then no 1 else
 if op = 1 then v.canon else
 if op = 2 then varV q name else
 if op = 3 then no 32 else
 if op = 4 ∨ op = 5 ∨ op = 7 then choiceV op (rs[0]?.getD (no 1)) (rs[1]?.getD (no 1)) (rs[2]?.getD (no 1)) else
 if (allV rs).2 ≠ 0 then no (allV rs).2 else
 if op = 19 then (Val.mk 5 false 0 ByteArray.empty ByteArray.empty ByteArray.empty (allV rs).1 []).canon else
 if op = 20 then (Val.mk 6 false 0 ByteArray.empty ByteArray.empty ByteArray.empty (allV rs).1 names).canon else
 match (allV rs).1 with
 | [a] => oneV c op name a
 | a :: b :: _ => twoV c op a b
 | [] => no 1
mutual
noncomputable def Exp.ev (q : Req) (c : List Ent) : Exp → Rs
 | .mk op v name kids names => evOp q c op v name names (Exp.evs q c kids)
noncomputable def Exp.evs (q : Req) (c : List Ent) : List Exp → List Rs
 | [] => []
 | e :: r => e.ev q c :: Exp.evs q c r
end
noncomputable def Exp.eval (q : Req) (c : List Ent) (e : Exp) : Rs := if 50 < e.dep then no 11 else e.ev q c
/-! ### what it comes to is as it must be -/
theorem Val.Is.items {v : Val} (h : v.Is) : ∀ x ∈ v.items, x.Is := by
 obtain ⟨k, bo, n, t, ut, ui, items, names⟩ := v
 simp only [Val.Is] at h
 rcases h with ⟨_, _, _, _, _, rfl, _⟩ | ⟨_, _, _, _, _, rfl, _⟩ | ⟨_, _, _, _, _, rfl, _⟩ | ⟨_, _, _, _, rfl, _⟩ | ⟨_, _, _, _, _, _, _, _, _, h⟩ | ⟨_, _, _, _, _, _, _, _, _, h⟩
 all_goals first | exact (Val.are_iff _).1 h | (intro x hx; cases hx)
end Go.Proofs.YtebfoimbdljbmaaGreatDoor
