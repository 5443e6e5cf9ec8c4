/-
  EntityTurned: what the statement's own function answers. The conditions: the entities lie in memory as they should.
-/
import Derived.Test.YtebfoimbdljbmaaGreatDoorGd
import Derived.Test.YtebfoimbdljbmaaGreatDoorGb
import Derived.Test.YtebfoimbdljbmaaGreatDoorGf
namespace Go.Proofs.YtebfoimbdljbmaaGreatDoor
open Go.RowKit
def StageT (w7 : World) (cs : List Value) (base : Nat) (out : Value) (acc : List Ent) (e : Ent) : List Value → World → Prop
 | [], W => Ext w7 W
 | [bl], W => ∃ W1, Ext w7 W1 ∧ bl = .slice (some ⟨W1.heap.size, 0, none⟩) 1 1 ∧ W = W1.alloc (.cells cs.toArray 87)
 | [_, v2], W => ∃ W1, Ext w7 W1 ∧ OwnL entR 87 base W v2 (acc ++ [e]) ∧ GrownBy W1 W out.ownBlock
 | _, _ => False
theorem StageT.old {w7 : World} {cs : List Value} {base : Nat} {out : Value} {acc : List Ent} {e : Ent} {vs : List Value} {W : World} (h : StageT w7 cs base out acc e vs W) (b : Nat) (h1 : b < w7.heap.size) (h2 : ¬ out.ownBlock = some b) : W.heap[b]? = w7.heap[b]? := by
 match vs, h with
 | [], h => exact (show Ext w7 W from h).block b h1
 | [bl], ⟨W1, hk, _, e'⟩ =>
  subst e'
  rw [heap_alloc_old _ _ (Nat.lt_of_lt_of_le h1 hk.size)]
  exact hk.block b h1
 | [_, v2], ⟨W1, hk, _, hg⟩ => exact (hg.block b (Nat.lt_of_lt_of_le h1 hk.size) fun e => h2 e.symm).trans (hk.block b h1)
 | _ :: _ :: _ :: _, h => exact h.elim
end Go.Proofs.YtebfoimbdljbmaaGreatDoor
