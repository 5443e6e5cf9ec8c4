/-
  Scopes in memory, and whether one takes an entity, as plain data. The conditions: none (definitions and lemmas).
-/
import Derived.Test.YtebfoimbdljbmaaGreatDoorGc
import Derived.Test.YtebfoimbdljbmaaGreatDoorGj
namespace Go.Proofs.YtebfoimbdljbmaaGreatDoor
open Go.RowKit
structure Scp where
 kind : Int
 ty : ByteArray
 uid : Uid
 slot : Bool
 list : List Uid
def scpR : Rep Scp where
 size := 6
 pos := by omega
 At S w x cs := ∃ v, cs = [.int .i64 x.kind, .string x.ty, .string x.uid.1, .string x.uid.2, .bool x.slot, v] ∧ I64 x.kind ∧ x.ty.size ≤ maxLen ∧ zaw x.uid ∧ uidR.RowsAt S w x.list v
 len := by rintro S w x cs ⟨v, rfl, _⟩; rfl
 one := by
  rintro S w x cs ⟨v, rfl, _, _, _, h⟩ u hu
  simp at hu
  rcases hu with rfl | rfl | rfl | rfl | rfl | rfl
  ·rfl
  ·rfl
  ·rfl
  ·rfl
  ·rfl
  ·exact h.one
 alike := by rintro S w w' x cs ⟨v, rfl, h0, h1, h2, h3⟩ k; exact ⟨v, rfl, h0, h1, h2, h3.alike k⟩
 mono := by rintro S S' w x cs ⟨v, rfl, h0, h1, h2, h3⟩ k; exact ⟨v, rfl, h0, h1, h2, h3.mono k⟩
noncomputable def Scp.holds (c : List Ent) (p : Scp) (u : Uid) : Bool × Int :=
 if p.slot = true ∧ (p.kind = 1 ∨ p.kind = 2 ∨ p.kind = 4) then (false, 32) else
 if p.kind = 0 then (true, 0) else
 if p.kind = 1 then (decide (u = p.uid), 0) else
 if p.kind = 2 then (inB c u p.uid, 0) else
 if p.kind = 3 then (decide (u.1 = p.ty), 0) else
 if p.kind = 4 then (decide (u.1 = p.ty) && inB c u p.uid, 0) else
 if p.kind = 5 then (p.list.any fun x => inB c u x, 0) else (false, 1)
end Go.Proofs.YtebfoimbdljbmaaGreatDoor
