/-
  What the program tells of a store that may be none. The conditions: the store lies in memory as it should, or there is none.
-/
import Derived.Test.YtebfoimbdljbmaaDoorLaw6aQ
namespace Go.Proofs.YtebfoimbdljbmaaDoor
open Go.RowKit

/-- a store, or none: then of no entities -/
def StoreV (W : World) (pv : Value) (c : List Ent) : Prop := (pv = .pointer none ∧ c = []) ∨ ∃ g, pv = .pointer (some ⟨g, 0, none⟩) ∧ Fam W g c
theorem StoreV.ext {W W' : World} {pv : Value} {c : List Ent} (h : StoreV W pv c) (k : Ext W W') : StoreV W' pv c := by
  rcases h with h | ⟨g, h1, h2⟩
  · exact .inl h
  · exact .inr ⟨g, h1, h2.ext k⟩
theorem StoreV.tidy {W : World} {pv : Value} {c : List Ent} (h : StoreV W pv c) : Tidy c := by
  rcases h with ⟨_, rfl⟩ | ⟨g, _, h2⟩
  · exact ⟨List.nodup_nil, by simp, by simp, by simp⟩
  · exact h2.tidy

end Go.Proofs.YtebfoimbdljbmaaDoor
