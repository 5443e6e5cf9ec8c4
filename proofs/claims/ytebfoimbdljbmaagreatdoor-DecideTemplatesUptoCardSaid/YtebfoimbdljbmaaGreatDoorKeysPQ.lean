/-
  The library's function that hands on a map's keys, for maps from pairs of names. The conditions: the map lies in memory as it should.
-/
import Derived.Test.YtebfoimbdljbmaaGreatDoorGi
import Derived.Test.YtebfoimbdljbmaaGreatDoorSeqQ
import Derived.Test.YtebfoimbdljbmaaGreatDoorGd
import Derived.Shelf.Abstract
import Derived.Shelf.AbstractIn
import Derived.WalkKit
import Derived.OwnWalkIn
import Derived.TacticsInMore
import Derived.RegionIn
import Derived.LoopNIn
import Derived.LoopIn
import Derived.Sort.MapsRangeIn
namespace Go.Proofs.YtebfoimbdljbmaaGreatDoor
open Go.RowKit Go.Shelf Go.Maps
section
variable {F : Fence} {n : Nat} {P : Program} {ops : Array Oper} {rest : List Oper} {o : Oper} {a : Act} {w w' : World} {Q : Exit → Act → World → Prop}
theorem wpListIn_value {v : Value} (hg : o.guard = none) (hd : ∀ c, o.op ≠ .defer c) (hab : o.about P w a.eval = none) (hr : (execOp a.eval o).run P w = .ok (.value v) w') (hK : wpListIn F n P ops Q rest (a.put o.dst v) w') : wpListIn F n P ops Q (o :: rest) a w := by
 refine wpListIn_plain hg fun K' hK' => ?_
 unfold Oper.wpIn
 refine ⟨by rw [hab]; simp, ?_⟩
 rw [Oper.semAt_plain F _ _ hd]
 simp [hr]
 exact hK' _ _ hK
end
theorem RangeP.walks {w w' : World} {b r : Nat} {m left : zby → Bool} {cnt : Nat} (h : RangeP w b r m left cnt) (k : KeepsWalks w w') : RangeP w' b r m left cnt := by
 obtain ⟨D, n, lf, h1, h2⟩ := h
 exact ⟨D, n, lf, h1.of_walks k, h2⟩
theorem RangeP.iter {w : World} {b r : Nat} {m left : zby → Bool} {cnt : Nat} (h : RangeP w b r m left cnt) : ∃ o : Obj, w.heap[r]? = some o ∧ o.isWalk = true := by
 obtain ⟨D, n, lf, h1, _⟩ := h
 exact h1.iter_walk
section
variable {F : Fence} {n : Nat} {ops : Array Oper} {rest : List Oper} {o : Oper} {a : Act} {w : World} {Q : Exit → Act → World → Prop}
end
abbrev FPair := { p : zby // FitP p }
def Come (m left : zby → Bool) (ss : List FPair) : Prop := ss.Nodup ∧ ∀ x : FPair, x ∈ ss ↔ m x.1 = true ∧ left x.1 = false
theorem Come.step {m left : zby → Bool} {ss : List FPair} (h : Come m left ss) (p : FPair) (hl : left p.1 = true) (hm : m p.1 = true) : Come m (fun y => left y && !decide (y = p.1)) (ss ++ [p]) := by
 have hn : p ∉ ss := fun hp => by rw [((h.2 p).1 hp).2] at hl; cases hl
 refine ⟨(List.perm_append_singleton p ss).nodup_iff.2 (List.nodup_cons.2 ⟨hn, h.1⟩), fun x => ?_⟩
 rw [List.mem_append, h.2 x]
 by_cases he : x = p
 ·subst he; simp [hl, hm]
 ·have : x.1 ≠ p.1 := fun e => he (Subtype.ext e)
  simp [he, this]
end Go.Proofs.YtebfoimbdljbmaaGreatDoor
