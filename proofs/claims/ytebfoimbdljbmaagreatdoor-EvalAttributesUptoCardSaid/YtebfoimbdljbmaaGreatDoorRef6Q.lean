/-
  The reference's answer to what is above a name. The conditions: the entities lie in memory as they should, are few, no name is there twice.
-/
import Derived.Test.YtebfoimbdljbmaaGreatDoorAboveFQ
import Derived.Test.YtebfoimbdljbmaaGreatDoorGh
namespace Go.Proofs.YtebfoimbdljbmaaGreatDoor
open Go.RowKit
structure UpAcc (c : List Ent) (u : Uid) (i : Nat) (acc : List Uid) : Prop where
 strict : zb9 ordU acc
 mem : ∀ q, q ∈ acc ↔ ∃ j, j < i ∧ (c.map Ent.uid)[j]? = some q ∧ UpTo c u q
 len : acc.length ≤ i
theorem UpAcc.no {c : List Ent} {u : Uid} {i : Nat} {acc : List Uid} {x : Ent} (h : UpAcc c u i acc) (hx : c[i]? = some x) (hn : ¬ UpTo c u x.uid) : UpAcc c u (i + 1) acc := by
 refine ⟨h.strict, fun q => ?_, by have := h.len; omega⟩
 rw [h.mem q]
 constructor
 ·rintro ⟨j, hj, h1, h2⟩; exact ⟨j, by omega, h1, h2⟩
 ·rintro ⟨j, hj, h1, h2⟩
  by_cases he : j = i
  ·subst he
   rw [List.getElem?_map, hx] at h1
   obtain rfl := Option.some.inj h1
   exact absurd h2 hn
  ·exact ⟨j, by omega, h1, h2⟩
theorem ins_mem_iff {acc : List Uid} {x q : Uid} : q ∈ ins ordU x acc ↔ q ∈ acc ∨ q = x := by
 constructor
 ·intro h
  rcases mem_ins h with h | h
  ·exact .inr h
  ·exact .inl h
 ·rintro (h | rfl)
  ·exact zcx h
  ·rcases zfd (c := ordU) (x := q) (l := acc) with h | ⟨z, hz, h0⟩
   ·exact h
   ·have := zew h0
    subst this; exact zcx hz
theorem ins_length_le {α : Type} {c : α → α → Int} {x : α} : ∀ {l : List α}, (ins c x l).length ≤ l.length + 1
 | [] => by simp [ins]
 | y :: r => by
  have := ins_length_le (c := c) (x := x) (l := r)
  simp only [ins]
  split <;> (try split) <;> simp <;> omega
theorem UpAcc.yes {c : List Ent} {u : Uid} {i : Nat} {acc : List Uid} {x : Ent} (h : UpAcc c u i acc) (hx : c[i]? = some x) (hn : UpTo c u x.uid) : UpAcc c u (i + 1) (ze1 x.uid false acc) := by
 rw [putU_ins h.strict]
 refine ⟨ins_strict GoodAt.ordU h.strict, fun q => ?_, by have h1 := h.len; have h2 := ins_length_le (c := ordU) (x := x.uid) (l := acc); omega⟩
 rw [ins_mem_iff, h.mem q]
 constructor
 ·rintro (⟨j, hj, h1, h2⟩ | rfl)
  ·exact ⟨j, by omega, h1, h2⟩
  ·exact ⟨i, by omega, by rw [List.getElem?_map, hx]; rfl, hn⟩
 ·rintro ⟨j, hj, h1, h2⟩
  by_cases he : j = i
  ·subst he
   rw [List.getElem?_map, hx] at h1
   exact .inr (Option.some.inj h1).symm
  ·exact .inl ⟨j, by omega, h1, h2⟩
theorem UpAcc.all {c : List Ent} {u : Uid} {acc : List Uid} (h : UpAcc c u c.length acc) (q : Uid) : q ∈ acc ↔ UpTo c u q := by
 rw [h.mem q]
 refine ⟨fun ⟨_, _, _, h⟩ => h, fun hq => ?_⟩
 obtain ⟨j, hj⟩ := List.mem_iff_getElem?.1 hq.names.2
 exact ⟨j, by have := (List.getElem?_eq_some_iff.1 hj).1; simpa using this, hj, hq⟩
end Go.Proofs.YtebfoimbdljbmaaGreatDoor
