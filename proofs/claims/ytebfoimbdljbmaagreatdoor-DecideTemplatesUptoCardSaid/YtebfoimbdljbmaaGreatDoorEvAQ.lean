/-
  Attributes of records and of entities, as the program's evaluation has them. The conditions: what is handed in lies in memory as it should.
-/
import Derived.Test.YtebfoimbdljbmaaGreatDoorEvBQ
import Derived.Test.YtebfoimbdljbmaaGreatDoorGf
import Derived.Test.YtebfoimbdljbmaaGreatDoorKnownQ
namespace Go.Proofs.YtebfoimbdljbmaaGreatDoor
open Go.RowKit
theorem Tryz.aggPs : ∀ w, (isAgg 42).run Tryz.prog w = .ok false w := fun _ => by kernel_rfl
theorem zeroEnt_one : ∀ v ∈ zeroEnt, v.oneCell' = true := by decide
def EntIn (c : List Ent) (u : Uid) (lo hi : Nat) (cs : List Value) (W : World) : Prop := (idx (c.map Ent.uid) u = none ∧ cs = zeroEnt) ∨ ∃ i x, idx (c.map Ent.uid) u = some i ∧ c[i]? = some x ∧ entR.At (fun b => lo ≤ b ∧ b < hi) W x cs
theorem EntIn.alike {c : List Ent} {u : Uid} {lo hi : Nat} {cs : List Value} {W W' : World} (h : EntIn c u lo hi cs W) (k : Alike (fun b => lo ≤ b ∧ b < hi) W W') : EntIn c u lo hi cs W' := by
 rcases h with h | ⟨i, x, h1, h2, h3⟩
 ·exact .inl h
 ·exact .inr ⟨i, x, h1, h2, entR.alike h3 k⟩
theorem EntIn.len {c : List Ent} {u : Uid} {lo hi : Nat} {cs : List Value} {W : World} (h : EntIn c u lo hi cs W) : cs.length = 11 ∧ ∀ v ∈ cs, v.oneCell' = true := by
 rcases h with ⟨_, rfl⟩ | ⟨i, x, h1, h2, h3⟩
 ·exact ⟨rfl, zeroEnt_one⟩
 ·exact ⟨entR.len h3, entR.one h3⟩
theorem getD_ne {xs : List Value} {i k : Nat} {v : Value} (h : i ≠ k) : (xs.set i v).getD k undef = xs.getD k undef := by
 rw [List.getD_eq_getElem?_getD, List.getElem?_set_ne h, ← List.getD_eq_getElem?_getD]
theorem getD_at {xs : List Value} {i : Nat} {v : Value} (h : i < xs.length) : (xs.set i v).getD i undef = v := by
 rw [List.getD_eq_getElem?_getD, List.getElem?_set_self h]; rfl
end Go.Proofs.YtebfoimbdljbmaaGreatDoor
