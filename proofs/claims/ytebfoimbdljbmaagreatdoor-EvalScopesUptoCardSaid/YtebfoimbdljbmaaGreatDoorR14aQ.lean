/-
  The document's answer for layer 14: truths, how many kids, whether a set holds a value. The conditions: what is handed in lies in memory as it should.
-/
import Derived.Test.YtebfoimbdljbmaaGreatDoorRkQ
import Derived.Test.YtebfoimbdljbmaaGreatDoorIn6Q
import Derived.Test.YtebfoimbdljbmaaGreatDoorGh
import Derived.Test.YtebfoimbdljbmaaGreatDoorGb
import Derived.Test.YtebfoimbdljbmaaGreatDoorGe
import Derived.Test.YtebfoimbdljbmaaGreatDoorGc
import Derived.Test.YtebfoimbdljbmaaGreatDoorGd
import Derived.Test.YtebfoimbdljbmaaGreatDoorGk
import Derived.Shelf.Bits.Mul64
import Derived.Test.YtebfoimbdljbmaaGreatDoorEvIQ
namespace Go.Proofs.YtebfoimbdljbmaaGreatDoor
open Go.RowKit

theorem any_take_succ {α : Type} {f : α → Bool} : ∀ {l : List α} {j : Nat} {x : α}, l[j]? = some x → (l.take (j + 1)).any f = ((l.take j).any f || f x)
  | [], _, _, h => by simp at h
  | y :: r, 0, x, h => by simp at h; subst h; simp
  | y :: r, j + 1, x, h => by
    have := any_take_succ (f := f) (l := r) (j := j) (x := x) (by simpa using h)
    simp only [List.take_succ_cons, List.any_cons, this, Bool.or_assoc]
end Go.Proofs.YtebfoimbdljbmaaGreatDoor
