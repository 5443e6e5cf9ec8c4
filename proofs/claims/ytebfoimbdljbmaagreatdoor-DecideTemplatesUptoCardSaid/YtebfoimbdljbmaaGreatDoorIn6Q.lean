/-
  The reference's answer to whether one is, or is below, another one. The conditions: the entities lie in memory as they should, are few, no name is there twice, parents are there.
-/
import Derived.Test.YtebfoimbdljbmaaGreatDoorRef6Q
namespace Go.Proofs.YtebfoimbdljbmaaGreatDoor
open Go.RowKit
structure Reach (l : List Ent) (a : Uid) (R : List Uid) : Prop where
 nodup : R.Nodup
 head : R[0]? = some a
 from' : ∀ r ∈ R, r = a ∨ UpTo l a r
def ClosedR (l : List Ent) (b : Uid) (R : List Uid) (i : Nat) : Prop := ∀ j r, j < i → R[j]? = some r → ∀ p, Above l r p → p ∈ R ∧ p ≠ b
def DoneP (x : Ent) (b : Uid) (R : List Uid) (k : Nat) : Prop := ∀ j p, j < k → x.ps[j]? = some p → p ∈ R ∧ p ≠ b
section
variable {l : List Ent} {a b : Uid} {R : List Uid}
theorem Reach.len (h : Reach l a R) : R.length ≤ l.length + 1 := by
 have := zbr (m := a :: l.map Ent.uid) h.nodup fun r hr => by
  rcases h.from' r hr with rfl | h1
  ·simp
  ·exact List.mem_cons_of_mem _ h1.names.2
 simpa using this
theorem Reach.push (h : Reach l a R) {r p : Uid} (hr : r ∈ R) (hp : Above l r p) (hn : p ∉ R) : Reach l a (R ++ [p]) := by
 refine ⟨(List.perm_append_singleton p R).nodup_iff.2 (List.nodup_cons.2 ⟨hn, h.nodup⟩), ?_, fun q hq => ?_⟩
 ·have := (List.getElem?_eq_some_iff.1 h.head).1
  rw [List.getElem?_append_left this]; exact h.head
 ·rcases List.mem_append.1 hq with hq | hq
  ·exact h.from' q hq
  ·obtain rfl : q = p := by simpa using hq
   rcases h.from' r hr with rfl | h1
   ·exact .inr (.one hp)
   ·exact .inr (h1.more hp)
theorem ClosedR.push {i : Nat} (h : ClosedR l b R i) (hi : i ≤ R.length) (p : Uid) : ClosedR l b (R ++ [p]) i := fun j r hj hr q hq => by
 rw [List.getElem?_append_left (by omega)] at hr
 obtain ⟨h1, h2⟩ := h j r hj hr q hq
 exact ⟨by simp [h1], h2⟩
theorem DoneP.push {x : Ent} {k : Nat} (h : DoneP x b R k) (p : Uid) : DoneP x b (R ++ [p]) k := fun j q hj hq => ⟨by simp [(h j q hj hq).1], (h j q hj hq).2⟩
theorem DoneP.next {x : Ent} {k : Nat} {p : Uid} (h : DoneP x b R k) (hp : x.ps[k]? = some p) (hm : p ∈ R) (hb : p ≠ b) : DoneP x b R (k + 1) := fun j q hj hq => by
 by_cases he : j = k
 ·subst he
  rw [hp] at hq
  obtain rfl := Option.some.inj hq
  exact ⟨hm, hb⟩
 ·exact h j q (by omega) hq
theorem ClosedR.next {i : Nat} {x : Ent} (hn : (l.map Ent.uid).Nodup) (h : ClosedR l b R i) (hx : x ∈ l) (hr : R[i]? = some x.uid) (hd : DoneP x b R x.ps.length) : ClosedR l b R (i + 1) := fun j r hj hjr p hp => by
 by_cases he : j = i
 ·subst he
  rw [hr] at hjr
  obtain rfl := Option.some.inj hjr
  obtain ⟨e, hel, heu, hep, _⟩ := hp
  obtain rfl : e = x := byUid_eq hn hel hx (by unfold cmpE; rw [heu]; exact ordU_self _)
  obtain ⟨k, hk⟩ := List.mem_iff_getElem?.1 hep
  exact hd k p (List.getElem?_eq_some_iff.1 hk).1 hk
 ·exact h j r (by omega) hjr p hp
end
theorem OwnL.one {α : Type} {R : Rep α} {T : TypeId} {base g : Nat} {W : World} {x : α} {cs : List Value} (hg : W.heap[g]? = some (.cells cs.toArray T (0, 0))) (hb : base ≤ g) (hx : R.At (fun b => b < W.heap.size ∧ b ≠ g) W x cs) : OwnL R T base W (.slice (some ⟨g, 0, none⟩) 1 1) [x] := by
 have hl := R.len hx
 have h1 : cs.length = 1 * R.size := by omega
 have h2 : cs.toArray.toList.take (1 * R.size) = cs := by rw [List.toList_toArray, List.take_of_length_le (by omega)]
 have h3 : (1 : Nat) ≤ maxLen := by rw [zat]; omega
 exact ⟨cs, ⟨h1, .inr ⟨g, 1, cs.toArray, rfl, hb, hg, Nat.le_refl _, h3, by simpa using h1, h2⟩⟩, cs, [], by simp, R.mono hx fun b hb => ⟨hb.1, fun e => hb.2 (Option.some.inj e).symm⟩, rfl⟩
theorem OwnL.at' {α : Type} {R : Rep α} {T : TypeId} {base : Nat} {W : World} {A : Option Addr} {n c : Nat} {l : List α} (h : OwnL R T base W (.slice A n c) l) (hl : l.length ≤ LIM) {i : Nat} {x : α} (hx : l[i]? = some x) : ∃ b o cs, A = some ⟨b, o, none⟩ ∧ CellsAt W b (o + i * R.size) cs ∧ R.At (fun b => b < W.heap.size) W x cs := by
 obtain ⟨A', c', e, _, hr⟩ := h.rows hl
 injection e with e1 _ e3
 subst e1
 obtain ⟨b, o, rfl, _, hr⟩ := hr (by have := (List.getElem?_eq_some_iff.1 hx).1; omega)
 obtain ⟨cs, h1, h2⟩ := hr i x hx
 exact ⟨b, o, cs, rfl, h1, h2⟩
end Go.Proofs.YtebfoimbdljbmaaGreatDoor
