/-
  The reference's answer to what is above a name. The conditions: the entities lie in memory as they should, are few, no name is there twice.
-/
import Derived.Test.YtebfoimbdljbmaaGreatDoorAboveFQ
import Derived.Test.YtebfoimbdljbmaaGreatDoorGh
namespace Go.Proofs.YtebfoimbdljbmaaGreatDoor
open Go.RowKit
structure UpAcc (c : List Ent) (u : Uid) (i : Nat) (acc : List Uid) : Prop where
 strict : Strict ordU acc
 mem : ∀ q, q ∈ acc ↔ ∃ j, j < i ∧ (c.map Ent.uid)[j]? = some q ∧ UpTo c u q
 len : acc.length ≤ i
theorem UpAcc.all {c : List Ent} {u : Uid} {acc : List Uid} (h : UpAcc c u c.length acc) (q : Uid) : q ∈ acc ↔ UpTo c u q := by
 rw [h.mem q]
 refine ⟨fun ⟨_, _, _, h⟩ => h, fun hq => ?_⟩
 obtain ⟨j, hj⟩ := List.mem_iff_getElem?.1 hq.names.2
 exact ⟨j, by have := (List.getElem?_eq_some_iff.1 hj).1; simpa using this, hj, hq⟩
end Go.Proofs.YtebfoimbdljbmaaGreatDoor
