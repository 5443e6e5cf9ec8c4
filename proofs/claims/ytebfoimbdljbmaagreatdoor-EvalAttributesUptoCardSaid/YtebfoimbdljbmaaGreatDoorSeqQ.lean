/-
  A loop over a function that hands on what it has: each round keeps what the loop needs, no draw is taken back. No function of the program. The conditions: none (definitions and lemmas).
-/
import Derived.Test.YtebfoimbdljbmaaGreatDoorGc
import Derived.RangeFuncNested
namespace Go.Proofs.YtebfoimbdljbmaaGreatDoor
open Go.RowKit
theorem GrownBy.alloc (W : World) (o : Obj) : GrownBy W (W.alloc o) none := ⟨World.grownBy_alloc W o none, Nat.le_refl _⟩
theorem GrownBy.putObj (W : World) (l : Nat) (o : Obj) : GrownBy W (W.putObj l o) (some l) := ⟨grownBy_putObj' W l o, Nat.le_refl _⟩
def OwnG {β : Type} (B : Nat) (I : β → World → Prop) : Prop := ∀ s W W' row, I s W → GrownBy W W' row → (∀ r, row = some r → B ≤ r ∧ ∃ o : Obj, W.heap[r]? = some o ∧ o.isCells = false) → I s W'
theorem OwnG.put {β : Type} {B : Nat} {I : β → World → Prop} (h : OwnG B I) {s : β} {W : World} {l : Nat} {o : Obj} (o' : Obj) (hs : I s W) (hB : B ≤ l) (hl : W.heap[l]? = some o) (ho : o.isCells = false) : I s (W.putObj l o') :=
 h s W _ (some l) hs (GrownBy.putObj W l o') fun r e => by cases e; exact ⟨hB, o, hl, ho⟩
theorem OwnG.new {β : Type} {B : Nat} {I : β → World → Prop} (h : OwnG B I) {s : β} {W : World} (o : Obj) (hs : I s W) : I s (W.alloc o) :=
 h s W _ none hs (GrownBy.alloc W o) fun r e => by cases e
section
variable {F : Fence} {n : Nat} {P : Program}
end
end Go.Proofs.YtebfoimbdljbmaaGreatDoor
