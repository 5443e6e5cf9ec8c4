/-
  Actions above actions: what leads to what, what is reached, and that a schema whose actions lead to themselves nowhere has actions that may be as entities. No program in sight. The conditions: none (definitions and lemmas).
-/
import Derived.Test.YtbkaffhbhimglaaGreatActsQ
import Derived.Test.YtbkaffhbhimglaaGreatUpEQ
namespace Go.Proofs.YtbkaffhbhimglaaGreat
open Go.RowKit
def zc4 (l : List ActT) (n : ByteArray) : List ByteArray := match zbi l n with
 | none => []
 | some i => match l[i]? with
  | none => []
  | some a => a.ins
theorem nextA_none {l : List ActT} {n : ByteArray} (h : zbi l n = none) : zc4 l n = [] := by simp only [zc4, h]
theorem nextA_some {l : List ActT} {n : ByteArray} {i : Nat} {a : ActT} (h : zbi l n = some i) (ha : l[i]? = some a) : zc4 l n = a.ins := by simp only [zc4, h, ha]
theorem nextA_mem {l : List ActT} {n x : ByteArray} (h : x ∈ zc4 l n) : x ∈ l.flatMap ActT.ins := by
 unfold zc4 at h
 split at h
 ·cases h
 ·split at h
  ·cases h
  ·rename_i a ha
   exact List.mem_flatMap.2 ⟨a, List.mem_of_getElem? ha, h⟩
theorem flat_len {l : List ActT} (h : ∀ a ∈ l, a.ins.length ≤ 10) : (l.flatMap ActT.ins).length ≤ l.length * 10 := by
 induction l with
 | nil => simp
 | cons a r ih =>
  have := ih fun x hx => h x (by simp [hx])
  have h1 := h a (by simp)
  rw [List.flatMap_cons, List.length_append, List.length_cons]
  omega
theorem nextA_len {l : List ActT} (h : ∀ a ∈ l, a.ins.length ≤ 10) (n : ByteArray) : (zc4 l n).length ≤ 10 := by
 unfold zc4
 split
 ·simp
 ·split
  ·simp
  ·rename_i a ha
   exact h a (List.mem_of_getElem? ha)
inductive LeadTo (l : List ActT) : ByteArray → ByteArray → Prop
 | one {p q : ByteArray} : q ∈ zc4 l p → LeadTo l p q
 | more {p q r : ByteArray} : LeadTo l p q → r ∈ zc4 l q → LeadTo l p r
def LeadOk (l : List ActT) (low : ByteArray) (R : List ByteArray) : Prop := (∃ E, R = zc4 l low ++ E ∧ E.Nodup ∧ ∀ x ∈ E, x ∈ l.flatMap ActT.ins) ∧ ∀ x ∈ R, LeadTo l low x
def LeadC (l : List ActT) (R : List ByteArray) (i : Nat) : Prop := ∀ j r, j < i → R[j]? = some r → ∀ p ∈ zc4 l r, p ∈ R
def LeadD (L : List ByteArray) (R : List ByteArray) (k : Nat) : Prop := ∀ j p, j < k → L[j]? = some p → p ∈ R
theorem LeadD.push {L R : List ByteArray} {k : Nat} (h : LeadD L R k) (p : ByteArray) : LeadD L (R ++ [p]) k := fun j q hj hq => by simp [h j q hj hq]
theorem LeadD.next {L R : List ByteArray} {k : Nat} {p : ByteArray} (h : LeadD L R k) (hp : L[k]? = some p) (hm : p ∈ R) : LeadD L R (k + 1) := fun j q hj hq => by
 by_cases he : j = k
 ·subst he; rw [hp] at hq; cases hq; exact hm
 ·exact h j q (by omega) hq
theorem LeadD.all {L R : List ByteArray} (h : LeadD L R L.length) : ∀ p ∈ L, p ∈ R := fun p hp => by
 obtain ⟨j, hj⟩ := List.mem_iff_getElem?.1 hp
 exact h j p (List.getElem?_eq_some_iff.1 hj).1 hj
theorem LeadOk.start {l : List ActT} {low : ByteArray} : LeadOk l low (zc4 l low) := ⟨⟨[], by simp, List.nodup_nil, by simp⟩, fun _ hx => .one hx⟩
theorem LeadOk.len {l : List ActT} {low : ByteArray} {R : List ByteArray} (h : LeadOk l low R) (h10 : l.length ≤ 10) (hi : ∀ a ∈ l, a.ins.length ≤ 10) : R.length ≤ 110 := by
 obtain ⟨⟨E, rfl, hn, hm⟩, _⟩ := h
 have h1 := za6 hn hm
 have h2 := flat_len hi
 have h3 := nextA_len hi low
 simp; omega
theorem LeadOk.push {l : List ActT} {low : ByteArray} {R : List ByteArray} (h : LeadOk l low R) {x r : ByteArray} (hx : x ∉ R) (hr0 : r ∈ R) (hr : x ∈ zc4 l r) : LeadOk l low (R ++ [x]) := by
 obtain ⟨⟨E, rfl, hn, hm⟩, hl⟩ := h
 refine ⟨⟨E ++ [x], by simp, (List.perm_append_singleton x E).nodup_iff.2 (List.nodup_cons.2 ⟨fun h => hx (by simp [h]), hn⟩), fun y hy => ?_⟩, fun y hy => ?_⟩
 ·rcases List.mem_append.1 hy with hy | hy
  ·exact hm y hy
  ·obtain rfl : y = x := by simpa using hy
   exact nextA_mem hr
 ·rcases List.mem_append.1 hy with hy | hy
  ·exact hl y hy
  ·obtain rfl : y = x := by simpa using hy
   exact .more (hl r hr0) hr
theorem LeadC.push {l : List ActT} {R : List ByteArray} {i : Nat} (h : LeadC l R i) (hi : i ≤ R.length) (x : ByteArray) : LeadC l (R ++ [x]) i := fun j r hj hr p hp => by
 rw [List.getElem?_append_left (by omega)] at hr
 simp [h j r hj hr p hp]
theorem LeadC.next {l : List ActT} {R : List ByteArray} {i : Nat} (h : LeadC l R i) {r : ByteArray} (hr : R[i]? = some r) (hd : ∀ p ∈ zc4 l r, p ∈ R) : LeadC l R (i + 1) := fun j q hj hq p hp => by
 by_cases he : j = i
 ·subst he
  rw [hr] at hq
  obtain rfl := Option.some.inj hq
  exact hd p hp
 ·exact h j q (by omega) hq p hp
theorem LeadOk.no {l : List ActT} {low high : ByteArray} {R : List ByteArray} (h : LeadOk l low R) (hc : LeadC l R R.length) (hn : high ∉ R) : ¬ LeadTo l low high := fun ht => hn (by
 clear hn
 induction ht with
 | one hq => obtain ⟨⟨E, rfl, _⟩, _⟩ := h; simp [hq]
 | more _ hr ih =>
  obtain ⟨j, hj⟩ := List.mem_iff_getElem?.1 ih
  exact hc j _ (List.getElem?_eq_some_iff.1 hj).1 hj _ hr)
structure ActsOk (l : List ActT) : Prop where
 ids : ∀ i a, l[i]? = some a → zbi l a.id = some i
 pars : ∀ a ∈ l, ∀ p ∈ a.ins, zbi l p ≠ none
 open' : ∀ a ∈ l, ¬ LeadTo l a.id a.id
theorem ActsOk.next {l : List ActT} (h : ActsOk l) {a : ActT} (ha : a ∈ l) : zc4 l a.id = a.ins := by
 obtain ⟨i, hi⟩ := List.mem_iff_getElem?.1 ha
 exact nextA_some (h.ids i a hi) hi
theorem actsE_uids (l : List ActT) : (zaz l).map Ent.uid = l.map fun a => (tAct, a.id) := by simp [zaz, zdd, Function.comp_def]
theorem ActsOk.nodup {l : List ActT} (h : ActsOk l) : ((zaz l).map Ent.uid).Nodup := by
 rw [actsE_uids]
 refine List.pairwise_iff_getElem.2 fun i j hi hj hij he => ?_
 simp at hi hj he
 have h1 := h.ids i _ (List.getElem?_eq_getElem hi)
 have h2 := h.ids j _ (List.getElem?_eq_getElem hj)
 rw [he, h2] at h1
 have := Option.some.inj h1
 omega
theorem sac_mem {l : List ActT} {p : ByteArray} (h : zbi l p ≠ none) : ∃ a ∈ l, a.id = p := by
 cases hi : zbi l p with
 | none => exact absurd hi h
 | some i =>
  obtain ⟨a, ha, he⟩ := zew hi
  exact ⟨a, List.mem_of_getElem? ha, zbs (by simpa using he)⟩
theorem above_lead {l : List ActT} (h : ActsOk l) {u v : Uid} (hu : Above (zaz l) u v) : u.1 = tAct ∧ v.1 = tAct ∧ v.2 ∈ zc4 l u.2 := by
 obtain ⟨e, he, rfl, hv, _⟩ := hu
 obtain ⟨a, ha, rfl⟩ := List.mem_map.1 he
 obtain ⟨p, hp, rfl⟩ := List.mem_map.1 (show v ∈ a.ins.map fun p => (tAct, p) from hv)
 exact ⟨rfl, rfl, by rw [show (zdd a).uid.2 = a.id from rfl, h.next ha]; exact hp⟩
theorem upTo_lead {l : List ActT} (h : ActsOk l) {u v : Uid} (hu : UpTo (zaz l) u v) : LeadTo l u.2 v.2 := by
 induction hu with
 | one h1 => exact .one (above_lead h h1).2.2
 | more _ h2 ih => exact .more ih (above_lead h h2).2.2
theorem ActsOk.good {l : List ActT} (h : ActsOk l) (hl : l.length ≤ 4096) : Good (zaz l) where
 len := by simpa [zaz] using hl
 names := h.nodup
 ones e he := by
  obtain ⟨a, ha, rfl⟩ := List.mem_map.1 he
  refine ⟨rfl, by rw [show (zdd a).av = recV from rfl, recV_canon], fun p hp => ?_⟩
  obtain ⟨q, hq, rfl⟩ := List.mem_map.1 (show p ∈ a.ins.map fun p => (tAct, p) from hp)
  obtain ⟨b, hb, rfl⟩ := sac_mem (h.pars a ha q hq)
  rw [actsE_uids]
  exact List.mem_map.2 ⟨b, hb, rfl⟩
 round hr := by
  obtain ⟨i, hi, hv⟩ := (rounded_via h.nodup).1 hr
  obtain ⟨u, hu⟩ : ∃ u, ((zaz l).map Ent.uid)[i]? = some u := ⟨_, List.getElem?_eq_getElem (by simpa using hi)⟩
  have hup := (upTo_via h.nodup hu hu).2 hv
  have hm := hup.names.1
  rw [actsE_uids] at hm
  obtain ⟨a, ha, rfl⟩ := List.mem_map.1 hm
  exact h.open' a ha (upTo_lead h hup)
end Go.Proofs.YtbkaffhbhimglaaGreat
