/-
  What an expression comes to is not deep. No program in sight. The conditions: the entities' attributes are not deep.
-/
import Derived.Test.YtebfoimbdljbmaaDoorEvQ
import Derived.Test.YtebfoimbdljbmaaDoorGc
namespace Go.Proofs.YtebfoimbdljbmaaDoor
open Go.RowKit

section
variable {D : Nat} (hD : 50 ≤ D)
include hD
end
theorem allV_len : ∀ {l : List Rs}, (allV l).2 = 0 → (allV l).1.length = l.length
  | [], _ => rfl
  | r :: l, h => by
    unfold allV at h ⊢
    split at h
    · exact absurd h (by assumption)
    · rename_i h1
      rw [if_neg h1]
      split at h
      · exact absurd h (by assumption)
      · rename_i h2
        rw [if_neg h2]
        simp [allV_len (Decidable.byContradiction h2)]
end Go.Proofs.YtebfoimbdljbmaaDoor
