/-
  Entities as plain data: the order of names, what is above what, and what the taking away of those that nobody is below comes to. No program in sight. The conditions: none (definitions and lemmas).
-/
import Derived.Test.YtpkgkabcikmopaaFacts
namespace Go.Proofs.Ytpkgkabcikmopaa
open Go.RowKit

abbrev Uid := ByteArray × ByteArray
def ordU (a b : Uid) : Int := lex2 (cmpS a.1 b.1) (cmpS a.2 b.2)
theorem GoodAt.ordU (a : Uid) : GoodAt ordU a := GoodAt.both (GoodAt.cmpS _) (GoodAt.cmpS _)
theorem ordU_eq {a b : Uid} (h : ordU a b = 0) : a = b := by
  unfold ordU lex2 at h
  split at h
  · rename_i h1; exact Prod.ext (cmpS_eq h1) (cmpS_eq h)
  · rename_i h1; exact absurd h h1

structure Ent where
  uid : Uid
  ps : List Uid
  av : Val

/-- where a name stands first -/
def idx : List Uid → Uid → Option Nat
  | [], _ => none
  | x :: r, u => if x = u then some 0 else (idx r u).map (· + 1)

theorem idx_none {u : Uid} : ∀ {l : List Uid}, idx l u = none ↔ u ∉ l
  | [] => by simp [idx]
  | x :: r => by
    simp only [idx]
    by_cases h : x = u
    · simp [h]
    · rw [if_neg h]
      simp [idx_none (l := r), Ne.symm h]
theorem idx_get {u : Uid} : ∀ {l : List Uid} {i : Nat}, idx l u = some i → l[i]? = some u
  | [], _, h => by simp [idx] at h
  | x :: r, i, h => by
    simp only [idx] at h
    by_cases hx : x = u
    · rw [if_pos hx] at h
      obtain rfl := Option.some.inj h
      simp [hx]
    · rw [if_neg hx] at h
      obtain ⟨j, hj, rfl⟩ := Option.map_eq_some_iff.1 h
      simpa using idx_get hj
theorem idx_lt {u : Uid} {l : List Uid} {i : Nat} (h : idx l u = some i) : i < l.length := (List.getElem?_eq_some_iff.1 (idx_get h)).1
theorem idx_first {u : Uid} : ∀ {l : List Uid} {i : Nat}, idx l u = some i → ∀ j, j < i → l[j]? ≠ some u
  | [], _, h => by simp [idx] at h
  | x :: r, i, h => by
    simp only [idx] at h
    by_cases hx : x = u
    · rw [if_pos hx] at h
      obtain rfl := Option.some.inj h
      intro j hj; omega
    · rw [if_neg hx] at h
      obtain ⟨k, hk, rfl⟩ := Option.map_eq_some_iff.1 h
      intro j hj
      cases j with
      | zero => simpa using hx
      | succ j => simpa using idx_first hk j (by omega)
theorem idx_of_get {u : Uid} : ∀ {l : List Uid} {i : Nat}, l.Nodup → l[i]? = some u → idx l u = some i
  | [], _, _, h => by simp at h
  | x :: r, 0, _, h => by simp at h; simp [idx, h]
  | x :: r, i + 1, hn, h => by
    have h' : r[i]? = some u := by simpa using h
    have hx : x ≠ u := fun e => (List.nodup_cons.1 hn).1 (e ▸ List.mem_of_getElem? h')
    simp [idx, hx, idx_of_get (List.nodup_cons.1 hn).2 h']
theorem idx_mem {u : Uid} {l : List Uid} : u ∈ l ↔ ∃ i, idx l u = some i := by
  constructor
  · intro h
    cases hi : idx l u with
    | none => exact absurd h (idx_none.1 hi)
    | some i => exact ⟨i, rfl⟩
  · rintro ⟨i, hi⟩; exact List.mem_of_getElem? (idx_get hi)

/-- u has v, which is there, as a parent -/
def Above (l : List Ent) (u v : Uid) : Prop := ∃ e ∈ l, e.uid = u ∧ v ∈ e.ps ∧ v ∈ l.map Ent.uid
/-- some are above themselves -/
def Rounded (l : List Ent) : Prop := ∃ u ∈ l.map Ent.uid, ¬ Acc (Above l) u

theorem Above.congr {l m : List Ent} (h : ∀ e ∈ l, ∃ f ∈ m, f.uid = e.uid ∧ ∀ p, p ∈ e.ps → p ∈ f.ps) {u v : Uid} (hu : Above l u v) : Above m u v := by
  obtain ⟨e, he, rfl, hv, hm⟩ := hu
  obtain ⟨f, hf, hfu, hp⟩ := h e he
  refine ⟨f, hf, hfu, hp v hv, ?_⟩
  obtain ⟨x, hx, rfl⟩ := List.mem_map.1 hm
  obtain ⟨y, hy, hyu, _⟩ := h x hx
  exact List.mem_map.2 ⟨y, hy, hyu⟩
theorem Acc.mono {α : Type} {r s : α → α → Prop} (h : ∀ a b, r a b → s a b) {a : α} (k : Acc s a) : Acc r a := by
  induction k with
  | intro x _ ih => exact ⟨x, fun y hy => ih y (h y x hy)⟩
theorem Rounded.congr {l m : List Ent} (h : ∀ e ∈ l, ∃ f ∈ m, f.uid = e.uid ∧ ∀ p, p ∈ e.ps → p ∈ f.ps) (hr : Rounded l) : Rounded m := by
  obtain ⟨u, hu, ha⟩ := hr
  refine ⟨u, ?_, fun k => ha (Acc.mono (fun _ _ => Above.congr h) k)⟩
  obtain ⟨x, hx, rfl⟩ := List.mem_map.1 hu
  obtain ⟨y, hy, hyu, _⟩ := h x hx
  exact List.mem_map.2 ⟨y, hy, hyu⟩

/-- one entity as it must be -/
def oneE (us : List Uid) (e : Ent) : Ent × Int :=
  if e.av.kind ≠ 6 then (⟨e.uid, [], .zero⟩, 1) else if e.av.canon.2 ≠ 0 then (⟨e.uid, [], .zero⟩, e.av.canon.2) else if e.ps.all (fun p => (idx us p).isSome) then (⟨e.uid, sortU ordU e.ps, e.av.canon.1⟩, 0) else (⟨e.uid, [], .zero⟩, 20)
/-- all of them, or the first error -/
def onesE (us : List Uid) : List Ent → List Ent × Int
  | [] => ([], 0)
  | e :: r => if (oneE us e).2 ≠ 0 then ([], (oneE us e).2) else if (onesE us r).2 ≠ 0 then ([], (onesE us r).2) else ((oneE us e).1 :: (onesE us r).1, 0)
def cmpE (a b : Ent) : Int := ordU a.uid b.uid
theorem GoodAt.cmpE (a : Ent) : GoodAt cmpE a := GoodAt.part (c := Go.Proofs.Ytpkgkabcikmopaa.ordU) Ent.uid (GoodAt.ordU a.uid)

open Classical in
/-- entities as they must be, or an error -/
noncomputable def canonE (l : List Ent) : List Ent × Int :=
  if 4096 < l.length then ([], 12) else if ¬ (l.map Ent.uid).Nodup then ([], 13) else if (onesE (l.map Ent.uid) l).2 ≠ 0 then ([], (onesE (l.map Ent.uid) l).2) else
  if Rounded l then ([], 21) else (sortU cmpE (onesE (l.map Ent.uid) l).1, 0)

/-! ### numbered things, and which of them are above which -/
section kahn
variable (par : Nat → List Nat)
/-- how often k is a parent of one that isn't skipped -/
def cntOut (skip : Nat → Bool) (k : Nat) : Nat → Nat
  | 0 => 0
  | m + 1 => cntOut skip k m + if skip m then 0 else (par m).count k
variable {par}
theorem cntOut_congr {s t : Nat → Bool} {k : Nat} : ∀ {n : Nat}, (∀ i, i < n → s i = t i) → cntOut par s k n = cntOut par t k n
  | 0, _ => rfl
  | m + 1, h => by simp only [cntOut]; rw [cntOut_congr fun i hi => h i (by omega), h m (by omega)]
theorem cntOut_all {s : Nat → Bool} {k : Nat} : ∀ {n : Nat}, (∀ i, i < n → s i = true) → cntOut par s k n = 0
  | 0, _ => rfl
  | m + 1, h => by simp only [cntOut]; rw [cntOut_all fun i hi => h i (by omega), h m (by omega)]; rfl
/-- one less is skipped -/
theorem cntOut_one {s t : Nat → Bool} {i k : Nat} (hs : s i = true) (ht : t i = false) (h : ∀ j, j ≠ i → s j = t j) : ∀ {n : Nat}, i < n → cntOut par t k n = cntOut par s k n + (par i).count k
  | 0, h0 => by omega
  | m + 1, h0 => by
    simp only [cntOut]
    by_cases hm : i = m
    · subst hm
      rw [hs, ht, cntOut_congr (s := t) (t := s) fun j hj => (h j (by omega)).symm]
      simp
    · rw [cntOut_one hs ht h (n := m) (by omega), h m (Ne.symm hm)]
      omega
theorem cntOut_zero {s : Nat → Bool} {k : Nat} : ∀ {n : Nat}, cntOut par s k n = 0 → ∀ i, i < n → s i = false → k ∉ par i
  | 0, _, i, hi, _ => by omega
  | m + 1, h, i, hi, hs => by
    simp only [cntOut] at h
    by_cases hm : i = m
    · subst hm
      rw [hs] at h
      exact List.count_eq_zero.1 (by simp at h ⊢; exact h.2)
    · exact cntOut_zero (n := m) (by omega) i (by omega) hs
theorem cntOut_pos {s : Nat → Bool} {k : Nat} : ∀ {n : Nat}, cntOut par s k n ≠ 0 → ∃ i, i < n ∧ s i = false ∧ k ∈ par i
  | 0, h => by simp [cntOut] at h
  | m + 1, h => by
    simp only [cntOut] at h
    by_cases h1 : cntOut par s k m = 0
    · rw [h1] at h
      cases hs : s m
      · rw [hs] at h
        refine ⟨m, by omega, hs, ?_⟩
        have : (par m).count k ≠ 0 := fun e => h (by rw [e]; rfl)
        exact List.count_pos_iff.1 (by omega)
      · rw [hs] at h; simp at h
    · obtain ⟨i, hi, hs, hk⟩ := cntOut_pos (n := m) h1
      exact ⟨i, by omega, hs, hk⟩
theorem cntOut_le {s : Nat → Bool} {k M : Nat} : ∀ {n : Nat}, (∀ i, i < n → (par i).length ≤ M) → cntOut par s k n ≤ n * M
  | 0, _ => by simp [cntOut]
  | m + 1, h => by
    simp only [cntOut]
    have h1 := cntOut_le (s := s) (k := k) (n := m) fun i hi => h i (by omega)
    have h2 : (par m).count k ≤ M := Nat.le_trans List.count_le_length (h m (by omega))
    rw [Nat.succ_mul]
    split <;> omega

variable (par)
/-- each one that was taken away had nobody below it that was left -/
def Topo (n : Nat) : List Nat → Prop
  | [] => True
  | k :: R => (∀ i, i < n → k ∈ par i → i ∈ R) ∧ Topo n R
/-- R: taken away; L: may be; rest: parents that are still to be told of it; b: how many are below each -/
structure Mid3 (n : Nat) (R L rest : List Nat) (b : Nat → Nat) : Prop where
  nodup : (R ++ L).Nodup
  lt : ∀ k, k ∈ R ++ L → k < n
  topo : Topo par n R
  zero : ∀ k, k < n → (b k = 0 ↔ k ∈ R ++ L)
  sum : ∀ k, k < n → b k = cntOut par (fun i => decide (i ∈ R)) k n + rest.count k
variable {par}

theorem Mid3.pop {n : Nat} {R L : List Nat} {i : Nat} {b : Nat → Nat} (h : Mid3 par n R (L ++ [i]) [] b) : Mid3 par n (i :: R) L (par i) b := by
  have hp : (R ++ (L ++ [i])).Perm (i :: R ++ L) := by
    rw [← List.append_assoc]
    exact List.perm_append_singleton _ _
  have hi : i < n := h.lt i (by simp)
  have hn := hp.nodup_iff.1 h.nodup
  have hiR : i ∉ R := fun hm => (List.nodup_cons.1 hn).1 (by simp [hm])
  refine ⟨hn, fun k hk => h.lt k (hp.mem_iff.2 hk), ⟨fun j hj hm => ?_, h.topo⟩, fun k hk => (h.zero k hk).trans hp.mem_iff, fun k hk => ?_⟩
  · have h0 : b i = 0 := (h.zero i hi).2 (by simp)
    have h1 := h.sum i hi
    by_cases hjR : j ∈ R
    · exact hjR
    · rw [h0, List.count_nil] at h1
      exact absurd hm (cntOut_zero (s := fun j => decide (j ∈ R)) (by omega) j hj (by simpa using hjR))
  · rw [h.sum k hk, cntOut_one (s := fun j => decide (j ∈ i :: R)) (t := fun j => decide (j ∈ R)) (i := i) (by simp) (by simpa using hiR) (fun j hj => by simp [hj]) hi]
    simp
theorem Mid3.told {n : Nat} {R L rest : List Nat} {k : Nat} {b : Nat → Nat} (h : Mid3 par n R L (k :: rest) b) (hk : k < n) : 0 < b k ∧ k ∉ R ++ L := by
  have h1 := h.sum k hk
  have h2 : 0 < b k := by simp at h1; omega
  exact ⟨h2, fun hm => by have := (h.zero k hk).2 hm; omega⟩
theorem Mid3.last {n : Nat} {R L rest : List Nat} {k : Nat} {b : Nat → Nat} (h : Mid3 par n R L (k :: rest) b) (hk : k < n) (h1 : b k = 1) : Mid3 par n R (L ++ [k]) rest fun j => if j = k then 0 else b j := by
  obtain ⟨h2, h3⟩ := h.told hk
  have hp : (R ++ (L ++ [k])).Perm (k :: (R ++ L)) := by
    rw [← List.append_assoc]
    exact List.perm_append_singleton _ _
  refine ⟨hp.nodup_iff.2 (List.nodup_cons.2 ⟨h3, h.nodup⟩), fun j hj => ?_, h.topo, fun j hj => ?_, fun j hj => ?_⟩
  · rcases List.mem_cons.1 (hp.mem_iff.1 hj) with rfl | h4
    · exact hk
    · exact h.lt j h4
  · rw [hp.mem_iff]
    by_cases he : j = k
    · simp [he]
    · simp only [List.mem_cons, he, false_or]; exact h.zero j hj
  · have h4 := h.sum j hj
    by_cases he : j = k
    · subst he
      simp at h4 ⊢; omega
    · rw [if_neg he, h4, List.count_cons_of_ne (Ne.symm he)]
theorem Mid3.more {n : Nat} {R L rest : List Nat} {k : Nat} {b : Nat → Nat} (h : Mid3 par n R L (k :: rest) b) (hk : k < n) (h1 : b k ≠ 1) : Mid3 par n R L rest fun j => if j = k then b k - 1 else b j := by
  obtain ⟨h2, h3⟩ := h.told hk
  refine ⟨h.nodup, h.lt, h.topo, fun j hj => ?_, fun j hj => ?_⟩
  · by_cases he : j = k
    · subst he
      simp only [if_pos]
      constructor
      · intro h4; omega
      · intro h4; exact absurd h4 h3
    · rw [if_neg he]; exact h.zero j hj
  · have h4 := h.sum j hj
    by_cases he : j = k
    · subst he
      simp at h4 ⊢; omega
    · rw [if_neg he, h4, List.count_cons_of_ne (Ne.symm he)]

theorem Topo.acc {n : Nat} : ∀ {R : List Nat}, Topo par n R → ∀ k ∈ R, Acc (fun i j => i < n ∧ j ∈ par i) k
  | [], _, _, h => by simp at h
  | x :: R, h, k, hk => by
    have ih := Topo.acc h.2
    rcases List.mem_cons.1 hk with rfl | hk
    · exact ⟨k, fun i hi => ih i (h.1 i hi.1 hi.2)⟩
    · exact ih k hk
theorem not_acc_of {α : Type} {r : α → α → Prop} {S : α → Prop} (h : ∀ k, S k → ∃ i, S i ∧ r i k) {k : α} (hk : S k) : ¬ Acc r k := fun ha => by
  induction ha with
  | intro x _ ih =>
    obtain ⟨i, hi, hr⟩ := h x hk
    exact ih i hr hi
/-- what is left at the end -/
theorem Mid3.done {n : Nat} {R : List Nat} {b : Nat → Nat} (h : Mid3 par n R [] [] b) {k : Nat} (hk : k < n) : Acc (fun i j => i < n ∧ j ∈ par i) k ↔ k ∈ R := by
  constructor
  · intro ha
    by_cases hR : k ∈ R
    · exact hR
    · refine absurd ha (not_acc_of (S := fun k => k < n ∧ k ∉ R) (fun k hk => ?_) ⟨hk, hR⟩)
      have h0 : b k ≠ 0 := fun e => hk.2 (by simpa using (h.zero k hk.1).1 e)
      have h1 := h.sum k hk.1
      obtain ⟨i, hi, hs, hm⟩ := cntOut_pos (par := par) (s := fun i => decide (i ∈ R)) (k := k) (n := n) (by simp at h1; omega)
      exact ⟨i, ⟨hi, by simpa using hs⟩, hi, hm⟩
  · exact h.topo.acc k

theorem length_le_of_subset {α : Type} : ∀ {l m : List α}, l.Nodup → (∀ x ∈ l, x ∈ m) → l.length ≤ m.length
  | [], _, _, _ => by simp
  | x :: r, m, hn, h => by
    obtain ⟨h1, h2⟩ := List.nodup_cons.1 hn
    obtain ⟨s, t, rfl⟩ := List.append_of_mem (h x (by simp))
    have := length_le_of_subset (l := r) (m := s ++ t) h2 fun y hy => by
      have := h y (by simp [hy])
      have hne : y ≠ x := fun e => h1 (e ▸ hy)
      simpa [hne] using this
    simp at this ⊢; omega
theorem full_of_length {n : Nat} {R : List Nat} (hn : R.Nodup) (hl : ∀ k ∈ R, k < n) : R.length ≤ n ∧ (R.length = n ↔ ∀ k, k < n → k ∈ R) := by
  have h1 : R.length ≤ n := by simpa using length_le_of_subset (m := List.range n) hn fun x hx => List.mem_range.2 (hl x hx)
  refine ⟨h1, fun h k hk => ?_, fun h => ?_⟩
  · by_cases hm : k ∈ R
    · exact hm
    · have := length_le_of_subset (l := k :: R) (m := List.range n) (List.nodup_cons.2 ⟨hm, hn⟩) fun x hx => by
        rcases List.mem_cons.1 hx with rfl | hx
        · exact List.mem_range.2 hk
        · exact List.mem_range.2 (hl x hx)
      simp at this; omega
  · have := length_le_of_subset (l := List.range n) (m := R) List.nodup_range fun x hx => h x (List.mem_range.1 hx)
    simp at this; omega
end kahn

/-! ### by number, and by name -/
/-- the parents, by number -/
def parN (l : List Ent) (i : Nat) : List Nat := match l[i]? with
  | some e => e.ps.filterMap (idx (l.map Ent.uid))
  | none => []
theorem parN_of {l : List Ent} {i : Nat} {e : Ent} (h : l[i]? = some e) : parN l i = e.ps.filterMap (idx (l.map Ent.uid)) := by simp [parN, h]
theorem above_iff {l : List Ent} (hn : (l.map Ent.uid).Nodup) {i k : Nat} {e f : Ent} (hi : l[i]? = some e) (hk : l[k]? = some f) : k ∈ parN l i ↔ Above l e.uid f.uid := by
  have hki : idx (l.map Ent.uid) f.uid = some k := idx_of_get hn (by simp [hk])
  rw [parN_of hi, List.mem_filterMap]
  constructor
  · rintro ⟨p, hp, hpi⟩
    have hpf : p = f.uid := by
      have h1 := idx_get hpi
      have h2 := idx_get hki
      rw [h1] at h2
      exact Option.some.inj h2
    subst hpf
    exact ⟨e, List.mem_of_getElem? hi, rfl, hp, List.mem_map.2 ⟨f, List.mem_of_getElem? hk, rfl⟩⟩
  · rintro ⟨x, hx, hxe, hp, _⟩
    have : x = e := by
      obtain ⟨j, hj⟩ := List.mem_iff_getElem?.1 hx
      have h1 := idx_of_get (u := e.uid) hn (i := j) (by simp [hj, hxe])
      have h2 := idx_of_get (u := e.uid) hn (i := i) (by simp [hi])
      rw [h1] at h2
      obtain rfl := Option.some.inj h2
      rw [hi] at hj
      exact (Option.some.inj hj).symm
    subst this
    exact ⟨f.uid, hp, hki⟩
theorem acc_iff {l : List Ent} (hn : (l.map Ent.uid).Nodup) : ∀ {k : Nat} {f : Ent}, l[k]? = some f → (Acc (fun i j => i < l.length ∧ j ∈ parN l i) k ↔ Acc (Above l) f.uid) := by
  intro k f hk
  constructor
  · intro h
    induction h generalizing f with
    | intro k _ ih =>
      refine ⟨_, fun u hu => ?_⟩
      have hu0 := hu
      obtain ⟨e, he, rfl, _⟩ := hu
      obtain ⟨i, hi⟩ := List.mem_iff_getElem?.1 he
      exact ih i ⟨(List.getElem?_eq_some_iff.1 hi).1, (above_iff hn hi hk).2 hu0⟩ hi
  · intro h
    generalize hu : f.uid = u at h
    induction h generalizing k f with
    | intro u _ ih =>
      subst hu
      refine ⟨_, fun i hi => ?_⟩
      obtain ⟨e, he⟩ : ∃ e, l[i]? = some e := ⟨_, List.getElem?_eq_getElem hi.1⟩
      exact ih e.uid ((above_iff hn he hk).1 hi.2) he rfl
theorem parN_lt {l : List Ent} {i k : Nat} (h : k ∈ parN l i) : k < l.length := by
  unfold parN at h
  split at h
  · obtain ⟨p, _, hp⟩ := List.mem_filterMap.1 h
    simpa using idx_lt hp
  · simp at h

/-- what the taking away tells -/
theorem rounded_of {l : List Ent} (hn : (l.map Ent.uid).Nodup) {R : List Nat} {b : Nat → Nat} (h : Mid3 (parN l) l.length R [] [] b) : Rounded l ↔ R.length < l.length := by
  have hR : R.Nodup := by simpa using h.nodup
  obtain ⟨h1, h2⟩ := full_of_length hR fun k hk => h.lt k (by simp [hk])
  constructor
  · rintro ⟨u, hu, ha⟩
    obtain ⟨f, hf, rfl⟩ := List.mem_map.1 hu
    obtain ⟨k, hk⟩ := List.mem_iff_getElem?.1 hf
    have hkl := (List.getElem?_eq_some_iff.1 hk).1
    have : k ∉ R := fun hm => ha ((acc_iff hn hk).1 ((h.done hkl).2 hm))
    rcases Nat.lt_or_ge R.length l.length with h3 | h3
    · exact h3
    · exact absurd (h2.1 (by omega) k hkl) this
  · intro h3
    have : ¬ ∀ k, k < l.length → k ∈ R := fun hall => by have := h2.2 hall; omega
    obtain ⟨k, hk⟩ := Classical.not_forall.1 this
    obtain ⟨hkl, hkR⟩ := Classical.not_imp.1 hk
    obtain ⟨f, hf⟩ : ∃ f, l[k]? = some f := ⟨_, List.getElem?_eq_getElem hkl⟩
    exact ⟨f.uid, List.mem_map.2 ⟨f, List.mem_of_getElem? hf, rfl⟩, fun ha => hkR ((h.done hkl).1 ((acc_iff hn hf).2 ha))⟩

end Go.Proofs.Ytpkgkabcikmopaa
