/-
  decide.Decide of a few policies without conditions, with no store. The conditions: what is handed in lies in memory as it should.
-/
import Derived.Test.YtebfoimbdljbmaaGreatDoorTakes0Q
import Derived.Test.YtebfoimbdljbmaaGreatDoorNamesQ
import Derived.Test.YtebfoimbdljbmaaGreatDoorGj
namespace Go.Proofs.YtebfoimbdljbmaaGreatDoor
open Go.RowKit
structure Pol where
 name : ByteArray
 permit : Bool
 pr : Scp
 ac : Scp
 re : Scp
def Pol.At (w : World) (p : Pol) (cs : List Value) : Prop := ∃ pc acl rc, cs = .string p.name :: .bool p.permit :: (pc ++ (acl ++ (rc ++ [.slice none 0 0]))) ∧ scpR.At (fun b => b < w.heap.size) w p.pr pc ∧ scpR.At (fun b => b < w.heap.size) w p.ac acl ∧ scpR.At (fun b => b < w.heap.size) w p.re rc
theorem Pol.At.ext {w w' : World} {p : Pol} {cs : List Value} (h : p.At w cs) (k : Ext w w') : p.At w' cs := by
 obtain ⟨pc, acl, rc, h1, h2, h3, h4⟩ := h
 exact ⟨pc, acl, rc, h1, zca h2 k, zca h3 k, zca h4 k⟩
noncomputable def Pol.takes (q : Req) (p : Pol) : Bool × Int := zbb p.pr p.ac p.re q
noncomputable def Pol.told (q : Req) (p : Pol) : Nat := if (p.takes q).2 ≠ 0 then 3 else if (p.takes q).1 = true then (if p.permit = true then 1 else 2) else 0
noncomputable def zas (q : Req) (v : Nat) (l : List Pol) : List ByteArray := (l.filter fun p => p.told q == v).map Pol.name
theorem toldP_snoc (q : Req) (v : Nat) (l : List Pol) (p : Pol) : zas q v (l ++ [p]) = zas q v l ++ (if p.told q = v then [p.name] else []) := by
 unfold zas
 rw [List.filter_append, List.map_append]
 congr 1
 by_cases h : p.told q = v
 ·simp [List.filter, h]
 ·simp [List.filter, h, beq_eq_false_iff_ne.2 h]
theorem toldP_sub {q : Req} {v : Nat} {l : List Pol} {x : ByteArray} (h : x ∈ zas q v l) : x ∈ l.map Pol.name := by
 unfold zas at h
 obtain ⟨p, hp, rfl⟩ := List.mem_map.1 h
 exact List.mem_map.2 ⟨p, (List.mem_filter.1 hp).1, rfl⟩
noncomputable def TellS (w : World) (b : Nat) (l : List ByteArray) : Prop := MapS w b (fun x => l.any fun z => decide (x = z)) l.length
theorem TellS.put {w : World} {b : Nat} {l : List ByteArray} (h : TellS w b l) (hl : l.length ≤ 1048576) {p : ByteArray} (hp : FitS p) (hn : p ∉ l) :
  ∃ w', (Instr.mapUpdate 102 (.map (some b)) (.string p) (.bool true)).run Tryz.prog w = .ok () w' ∧ TellS w' b (l ++ [p]) ∧ GrownBy w w' (some b) := by
 obtain ⟨w', h1, h2, h3⟩ := MapS.put h hl hp
 refine ⟨w', h1, ?_, h3⟩
 have hc : l.length + (if (l.any fun z => decide (p = z)) = true then 0 else 1) = (l ++ [p]).length := by
  have : (l.any fun z => decide (p = z)) = false := by
   rw [List.any_eq_false]
   intro z hz he
   exact hn (by rw [of_decide_eq_true he]; exact hz)
  simp [this]
 unfold TellS
 rw [← hc]
 exact h2.congr fun y => by simp [Bool.or_comm]
theorem TellS.grown {w w' : World} {b : Nat} {l : List ByteArray} {r : Option Nat} (h : TellS w b l) (k : GrownBy w w' r) (hr : r ≠ some b) : TellS w' b l := MapS.block h (k.block _ (MapS.lt h) (fun e => hr e.symm))
variable {ops : Array Oper} {rest : List Oper} {o : Oper} {a : Act} {w : World} {Q : Exit → Act → World → Prop} in
theorem wpList_tell (hg : o.guard = none) (x k v : Operand) (hop : o.op = Op.mapUpdate 102 x k v) (b : Nat) (l : List ByteArray) (hm : a.eval x = .map (some b)) (h : TellS w b l) (hl : l.length ≤ 1048576) (p : ByteArray) (hp : FitS p) (hn : p ∉ l) (hx : a.eval k = .string p)
  (hv : a.eval v = .bool true) (hK : ∀ w', TellS w' b (l ++ [p]) → GrownBy w w' (some b) → wpList Tryz.prog ops Q rest (a.put o.dst undef) w') : wpList Tryz.prog ops Q (o :: rest) a w := by
 obtain ⟨w', hrun, h1, h2⟩ := h.put hl hp hn
 exact wpList_plain hg fun K' hK' => wp_mapUpdate hop hm hx hv hrun (hK' _ _ (hK w' h1 h2))
theorem tell_names {ss : List FStr} {l : List ByteArray} (h1 : ∀ x : FStr, x ∈ ss ↔ (l.any fun z => decide (x.1 = z)) = true) (h2 : ss.length ≤ l.length) (hf : ∀ y ∈ l, FitS y) (hl : l.length ≤ 1) : ss.map (·.1) = l := by
 match l, hl with
 | [], _ =>
  have : ss = [] := List.eq_nil_of_length_eq_zero (by simpa using h2)
  simp [this]
 | [y], _ =>
  have hy : (⟨y, hf y (by simp)⟩ : FStr) ∈ ss := (h1 _).2 (by simp)
  match ss, h2, hy with
  | [z], _, hy => have := List.mem_singleton.1 hy; rw [← this]; rfl
theorem zbf (b : Nat) (l : List ByteArray) (w : World) (h : TellS w b l) (hf : ∀ y ∈ l, FitS y) (hl : l.length ≤ 1) :
  Calls Tryz.prog 49 #[.map (some b)] w fun e w' => ∃ v, e = .returned v ∧ w'.ownsRow w.heap.size 9 1 v l.length (l.map .string) ∧ Ext w w' := by
 refine (names1_ok b _ l.length w h hl).mono ?_
 rintro e w' ⟨v, ss, rfl, ⟨_, h1, h2⟩, h3, h4⟩
 have hm := tell_names h1 h2 hf hl
 refine ⟨v, rfl, ?_, h4⟩
 have e1 : l.length = ss.length := by rw [← hm]; simp
 have e2 : l.map Value.string = strsF ss := by rw [← hm, List.map_map]; rfl
 rw [e1, e2]; exact h3
end Go.Proofs.YtebfoimbdljbmaaGreatDoor
