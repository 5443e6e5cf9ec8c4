/-
  What the program tells of a store that may be none. The conditions: the store lies in memory as it should, or there is none.
-/
import Derived.Test.YtebfoimbdljbmaaGreatDoorLaw6aQ
namespace Go.Proofs.YtebfoimbdljbmaaGreatDoor
open Go.RowKit
def StoreV (W : World) (pv : Value) (c : List Ent) : Prop := (pv = .pointer none ∧ c = []) ∨ ∃ g, pv = .pointer (some ⟨g, 0, none⟩) ∧ Fam W g c
theorem StoreV.ext {W W' : World} {pv : Value} {c : List Ent} (h : StoreV W pv c) (k : Ext W W') : StoreV W' pv c := by
 rcases h with h | ⟨g, h1, h2⟩
 ·exact .inl h
 ·exact .inr ⟨g, h1, h2.ext k⟩
theorem StoreV.tidy {W : World} {pv : Value} {c : List Ent} (h : StoreV W pv c) : Tidy c := by
 rcases h with ⟨_, rfl⟩ | ⟨g, _, h2⟩
 ·exact ⟨List.nodup_nil, by simp, by simp, by simp⟩
 ·exact h2.tidy
theorem getV_ok (pv : Value) (c : List Ent) (u : Uid) (w : World) (hu : FitU u) (h : StoreV w pv c) : Calls Tryz.prog 171 #[pv, zeu u] w (GetPost (c.map Ent.uid) c u w) := by
 rcases h with ⟨rfl, rfl⟩ | ⟨g, rfl, h⟩
 ·refine (getN_ok u w).mono ?_
  rintro e w' ⟨rfl, hx⟩
  exact ⟨_, _, rfl, .inl ⟨rfl, rfl, rfl⟩, hx⟩
 ·exact getF_ok g c u w hu h
theorem loadV_ok (S : Nat → Prop) (l : List Ent) (v : Value) (w : World) (hS : ∀ b, S b → b < w.heap.size) (hl : entR.RowsAt S w l v) (h20 : l.length ≤ 1000) (hps : ∀ e ∈ l, e.ps.length ≤ 1000) (hdep : ∀ e ∈ l, e.av.dep ≤ 1000000) :
  Calls Tryz.prog 15 #[v] w fun e w' => ∃ pv, e = .returned (.tuple #[pv, .int .i64 (za7 l).2]) ∧ StoreV w' pv (za7 l).1 ∧ ((za7 l).2 ≠ 0 → pv = .pointer none) ∧ ((za7 l).2 = 0 → ∃ g, pv = .pointer (some ⟨g, 0, none⟩)) ∧ Ext w w' := by
 refine (load_ok S l v w hS hl h20 hps hdep).mono ?_
 rintro e w' ⟨hbad, hgood, hx⟩
 by_cases hg : Good l
 ·have hc0 := ze6.2 hg
  obtain ⟨g, rfl, hfam, _⟩ := hgood hc0
  exact ⟨_, by rw [hc0], .inr ⟨g, rfl, hfam⟩, fun h => absurd hc0 h, fun _ => ⟨g, rfl⟩, hx⟩
 ·have hc0 : (za7 l).2 ≠ 0 := fun h => hg (ze6.1 h)
  exact ⟨_, hbad hc0, .inl ⟨rfl, canonE_bad hg⟩, fun _ => rfl, fun h => absurd h hc0, hx⟩
end Go.Proofs.YtebfoimbdljbmaaGreatDoor
