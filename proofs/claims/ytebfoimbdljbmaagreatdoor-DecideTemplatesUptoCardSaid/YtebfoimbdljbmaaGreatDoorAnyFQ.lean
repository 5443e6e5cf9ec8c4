/-
  What the program tells of a store that may be none. The conditions: the store lies in memory as it should, or there is none.
-/
import Derived.Test.YtebfoimbdljbmaaGreatDoorLaw6aQ
namespace Go.Proofs.YtebfoimbdljbmaaGreatDoor
open Go.RowKit
def StoreV (W : World) (pv : Value) (c : List Ent) : Prop := (pv = .pointer none ∧ c = []) ∨ ∃ g, pv = .pointer (some ⟨g, 0, none⟩) ∧ Fam W g c
theorem StoreV.ext {W W' : World} {pv : Value} {c : List Ent} (h : StoreV W pv c) (k : Ext W W') : StoreV W' pv c := by
 rcases h with h | ⟨g, h1, h2⟩
 ·exact .inl h
 ·exact .inr ⟨g, h1, h2.ext k⟩
theorem StoreV.tidy {W : World} {pv : Value} {c : List Ent} (h : StoreV W pv c) : Tidy c := by
 rcases h with ⟨_, rfl⟩ | ⟨g, _, h2⟩
 ·exact ⟨List.nodup_nil, by simp, by simp, by simp⟩
 ·exact h2.tidy
theorem upTo_nil {u q : Uid} : ¬ UpTo [] u q := fun h => by have := h.names.1; simp at this
theorem inB_nil (a b : Uid) : inB [] a b = decide (a = b) := by unfold inB; simp [upTo_nil]
theorem inV_ok (pv : Value) (c : List Ent) (x y : Uid) (w : World) (hx : zaw x) (hy : zaw y) (h : StoreV w pv c) : Calls Tryz.prog 44 #[pv, valU x, valU y] w fun e w' => e = .returned (.bool (inB c x y)) ∧ Ext w w' := by
 rcases h with ⟨rfl, rfl⟩ | ⟨g, rfl, h⟩
 ·rw [inB_nil]; exact inN_ok x y w
 ·exact inF_ok g c x y w hx hy h
end Go.Proofs.YtebfoimbdljbmaaGreatDoor
