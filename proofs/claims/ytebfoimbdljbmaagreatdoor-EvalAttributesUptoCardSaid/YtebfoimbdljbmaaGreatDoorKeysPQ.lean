/-
  The library's function that hands on a map's keys, for maps from pairs of names. The conditions: the map lies in memory as it should.
-/
import Derived.Test.YtebfoimbdljbmaaGreatDoorGi
import Derived.Test.YtebfoimbdljbmaaGreatDoorSeqQ
import Derived.Test.YtebfoimbdljbmaaGreatDoorGd
import Derived.Shelf.Abstract
import Derived.Shelf.AbstractIn
import Derived.WalkKit
import Derived.OwnWalkIn
import Derived.TacticsInMore
import Derived.RegionIn
import Derived.LoopNIn
import Derived.LoopIn
import Derived.Sort.MapsRangeIn
namespace Go.Proofs.YtebfoimbdljbmaaGreatDoor
open Go.RowKit Go.Shelf Go.Maps
section
variable {F : Fence} {n : Nat} {P : Program} {ops : Array Oper} {rest : List Oper} {o : Oper} {a : Act} {w w' : World} {Q : Exit → Act → World → Prop}
end
section
variable {F : Fence} {n : Nat} {ops : Array Oper} {rest : List Oper} {o : Oper} {a : Act} {w : World} {Q : Exit → Act → World → Prop}
end
abbrev FPair := { p : zea // FitP p }
def Come (m left : zea → Bool) (ss : List FPair) : Prop := ss.Nodup ∧ ∀ x : FPair, x ∈ ss ↔ m x.1 = true ∧ left x.1 = false
theorem Come.step {m left : zea → Bool} {ss : List FPair} (h : Come m left ss) (p : FPair) (hl : left p.1 = true) (hm : m p.1 = true) : Come m (fun y => left y && !decide (y = p.1)) (ss ++ [p]) := by
 have hn : p ∉ ss := fun hp => by rw [((h.2 p).1 hp).2] at hl; cases hl
 refine ⟨(List.perm_append_singleton p ss).nodup_iff.2 (List.nodup_cons.2 ⟨hn, h.1⟩), fun x => ?_⟩
 rw [List.mem_append, h.2 x]
 by_cases he : x = p
 ·subst he; simp [hl, hm]
 ·have : x.1 ≠ p.1 := fun e => he (Subtype.ext e)
  simp [he, this]
end Go.Proofs.YtebfoimbdljbmaaGreatDoor
