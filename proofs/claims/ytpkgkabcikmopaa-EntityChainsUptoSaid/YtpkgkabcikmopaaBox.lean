/-
  Words for the walks of laws: a struct in a box of the call's own, a value that lies in what is there. The conditions: none (definitions and lemmas).
-/
import Derived.Test.YtpkgkabcikmopaaOwn
import Derived.Test.YtpkgkabcikmopaaQuiet
namespace Go.Proofs.Ytpkgkabcikmopaa
open Go.RowKit

/-- a struct in a box -/
def BoxAt (W : World) (g : Nat) (cs : List Value) : Prop := g < W.heap.size ∧ CellsAt W g 0 cs
theorem BoxAt.ext {W W' : World} {g : Nat} {cs : List Value} (h : BoxAt W g cs) (k : Ext W W') : BoxAt W' g cs := ⟨Nat.lt_of_lt_of_le h.1 k.size, h.2.alike (S := fun b => b < W.heap.size) h.1 (Alike.of_ext k fun _ h => h)⟩
theorem BoxAt.new (W : World) (T : TypeId) (cs : List Value) : BoxAt (W.alloc (.cells cs.toArray T)) W.heap.size cs := ⟨by simp, cellsAt_new T cs rfl⟩
theorem BoxAt.cells {W : World} {g : Nat} {v0 v1 v2 v3 v4 v5 v6 v7 : Value} (h : BoxAt W g [v0, v1, v2, v3, v4, v5, v6, v7]) : W.cell? ⟨g, 0, none⟩ = some v0 ∧ W.cell? ⟨g, 1, none⟩ = some v1 ∧ W.cell? ⟨g, 2, none⟩ = some v2 ∧ W.cell? ⟨g, 3, none⟩ = some v3 ∧
    W.cell? ⟨g, 4, none⟩ = some v4 ∧ W.cell? ⟨g, 5, none⟩ = some v5 ∧ W.cell? ⟨g, 6, none⟩ = some v6 ∧ W.cell? ⟨g, 7, none⟩ = some v7 :=
  ⟨h.2 0 _ rfl, by simpa using h.2 1 _ rfl, by simpa using h.2 2 _ rfl, by simpa using h.2 3 _ rfl, by simpa using h.2 4 _ rfl, by simpa using h.2 5 _ rfl, by simpa using h.2 6 _ rfl, by simpa using h.2 7 _ rfl⟩

/-- a value in what is there -/
def InW (W : World) (v : Val) (cs : List Value) : Prop := Val.At (fun b => b < W.heap.size) W v cs
theorem InW.ext {W W' : World} {v : Val} {cs : List Value} (h : InW W v cs) (k : Ext W W') : InW W' v cs := (Val.At.alike (Alike.of_ext k fun _ h => h) v cs h).mono fun _ hb => Nat.lt_of_lt_of_le hb k.size
theorem InW.of {W : World} {v : Val} {cs : List Value} {S : Nat → Prop} (h : Val.At S W v cs) (hS : ∀ b, S b → b < W.heap.size) : InW W v cs := h.mono hS
theorem InW.lt (W : World) : ∀ b, (fun b => b < W.heap.size) b → b < W.heap.size := fun _ h => h
end Go.Proofs.Ytpkgkabcikmopaa
