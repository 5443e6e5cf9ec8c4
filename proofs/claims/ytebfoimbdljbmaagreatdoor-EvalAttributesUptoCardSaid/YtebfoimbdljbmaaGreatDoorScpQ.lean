/-
  Scopes in memory, and whether one takes an entity, as plain data. The conditions: none (definitions and lemmas).
-/
import Derived.Test.YtebfoimbdljbmaaGreatDoorGc
import Derived.Test.YtebfoimbdljbmaaGreatDoorGj
namespace Go.Proofs.YtebfoimbdljbmaaGreatDoor
open Go.RowKit
structure Scp where
 kind : Int
 ty : ByteArray
 uid : Uid
 slot : Bool
 list : List Uid
noncomputable def Scp.holds (c : List Ent) (p : Scp) (u : Uid) : Bool × Int :=
 if p.slot = true ∧ (p.kind = 1 ∨ p.kind = 2 ∨ p.kind = 4) then (false, 32) else
 if p.kind = 0 then (true, 0) else
 if p.kind = 1 then (decide (u = p.uid), 0) else
 if p.kind = 2 then (inB c u p.uid, 0) else
 if p.kind = 3 then (decide (u.1 = p.ty), 0) else
 if p.kind = 4 then (decide (u.1 = p.ty) && inB c u p.uid, 0) else
 if p.kind = 5 then (p.list.any fun x => inB c u x, 0) else (false, 1)
end Go.Proofs.YtebfoimbdljbmaaGreatDoor
