/-
  What an expression comes to is not deep. No program in sight. The conditions: the entities' attributes are not deep.
-/
import Derived.Test.YtebfoimbdljbmaaGreatDoorEvQ
import Derived.Test.YtebfoimbdljbmaaGreatDoorGc
namespace Go.Proofs.YtebfoimbdljbmaaGreatDoor
open Go.RowKit
section
variable {D : Nat} (hD : 50 ≤ D)
include hD
end
theorem allV_len : ∀ {l : List Rs}, (zda l).2 = 0 → (zda l).1.length = l.length
 | [], _ => rfl
 | r :: l, h => by
  unfold zda at h ⊢
  split at h
  ·exact absurd h (by assumption)
  ·rename_i h1
   rw [if_neg h1]
   split at h
   ·exact absurd h (by assumption)
   ·rename_i h2
    rw [if_neg h2]
    simp [allV_len (Decidable.byContradiction h2)]
end Go.Proofs.YtebfoimbdljbmaaGreatDoor
