/-
  FamilyLoads: what the statement's own function answers. The conditions: the arguments lie in memory as they should.
-/
import Derived.Test.YtebfoimbdljbmaaGreatDoorIn6Q
import Derived.Test.YtebfoimbdljbmaaGreatDoorGi
import Derived.Test.YtebfoimbdljbmaaGreatDoorGf
import Derived.Test.YtebfoimbdljbmaaGreatDoorGd
import Derived.Test.YtebfoimbdljbmaaGreatDoorGh
import Derived.Test.YtebfoimbdljbmaaGreatDoorLaw5tQ
namespace Go.Proofs.YtebfoimbdljbmaaGreatDoor
open Go.RowKit
def Stage6 (w0 : World) (cs : List Value) : List Value → World → Prop
 | [], W => Ext w0 W
 | [v], W => ∃ W1, Ext w0 W1 ∧ v = .slice (some ⟨W1.heap.size, 0, none⟩) 1 1 ∧ W = W1.alloc (.cells cs.toArray 87)
 | [_, r], W => Ext w0 W ∧ r = .bool true
 | _, _ => False
theorem Stage6.ext {w0 : World} {cs : List Value} {vs : List Value} {W : World} (h : Stage6 w0 cs vs W) : Ext w0 W := by
 match vs, h with
 | [], h => exact h
 | [_], ⟨W1, h1, _, h2⟩ => exact h2 ▸ h1.alloc _
 | [_, _], h => exact h.1
 | _ :: _ :: _ :: _, h => exact h.elim
end Go.Proofs.YtebfoimbdljbmaaGreatDoor
