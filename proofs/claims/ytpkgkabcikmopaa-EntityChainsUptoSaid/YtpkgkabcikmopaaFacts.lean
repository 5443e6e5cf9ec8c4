/-
  Plain laws of values as they must be: what canon comes to is so, stays so, is as deep; sets with the same members are the same. No program in sight. The conditions: none (lemmas).
-/
import Derived.Test.YtpkgkabcikmopaaItems
import Derived.Test.YtpkgkabcikmopaaFew
namespace Go.Proofs.Ytpkgkabcikmopaa
open Go.RowKit

theorem Val.can_def (v : Val) : v.can = if v.kind = 1 then (.mk 1 v.bo 0 empty empty empty [] [], 0) else
    if v.kind = 2 then (.mk 2 false v.num empty empty empty [] [], 0) else
    if v.kind = 3 then (.mk 3 false 0 v.text empty empty [] [], 0) else
    if v.kind = 4 then (.mk 4 false 0 empty v.ut v.ui [] [], 0) else
    if v.kind = 5 then
      if (Val.cans v.items).2 ≠ 0 then (.zero, (Val.cans v.items).2) else
      if 4096 < v.items.length then (.zero, 12) else
      (.mk 5 false 0 empty empty empty (sortU Val.ord (Val.cans v.items).1) [], 0) else
    if v.kind = 6 then
      if v.names.length ≠ v.items.length then (.zero, 1) else
      if (Val.cans v.items).2 ≠ 0 then (.zero, (Val.cans v.items).2) else
      if 4096 < v.items.length then (.zero, 12) else record v.names (Val.cans v.items).1
    else (.zero, 1) := by
  cases v; rw [Val.can]; rfl

theorem Val.can5 (bo : Bool) (i : Int) (t ut ui : ByteArray) (items : List Val) (names : List ByteArray) : (Val.mk 5 bo i t ut ui items names).can = if (Val.cans items).2 ≠ 0 then (.zero, (Val.cans items).2) else if 4096 < items.length then (.zero, 12) else (.mk 5 false 0 empty empty empty (sortU Val.ord (Val.cans items).1) [], 0) := by simp [Val.can]
theorem Val.can6 (bo : Bool) (i : Int) (t ut ui : ByteArray) (items : List Val) (names : List ByteArray) : (Val.mk 6 bo i t ut ui items names).can = if names.length ≠ items.length then (.zero, 1) else if (Val.cans items).2 ≠ 0 then (.zero, (Val.cans items).2) else if 4096 < items.length then (.zero, 12) else record names (Val.cans items).1 := by simp [Val.can]

/-- what a row's canons are -/
theorem Val.cans_mem : ∀ {l : List Val}, (Val.cans l).2 = 0 → ∀ x ∈ (Val.cans l).1, ∃ y ∈ l, y.can = (x, 0)
  | [], _, x, hx => by simp [Val.cans] at hx
  | y :: r, h, x, hx => by
    simp only [Val.cans] at h hx
    split at h
    · rename_i h1; exact absurd h h1
    · split at h
      · rename_i h1; exact absurd h h1
      · rename_i h1 h2
        simp at h1 h2
        simp [h1, h2] at hx
        rcases hx with rfl | hx
        · exact ⟨y, by simp, by rw [← h1]⟩
        · obtain ⟨z, hz, e⟩ := Val.cans_mem h2 x hx
          exact ⟨z, by simp [hz], e⟩
theorem Val.cans_ok_mem : ∀ {l : List Val}, (Val.cans l).2 = 0 → ∀ y ∈ l, y.can.2 = 0 ∧ y.can.1 ∈ (Val.cans l).1
  | [], _, x, hx => by cases hx
  | y :: r, h, x, hx => by
    simp only [Val.cans] at h ⊢
    split at h
    · rename_i h1; exact absurd h h1
    · split at h
      · rename_i h1; exact absurd h h1
      · rename_i h1 h2
        simp at h1 h2
        simp [h1, h2]
        rcases List.mem_cons.1 hx with rfl | hx
        · exact ⟨h1, .inl rfl⟩
        · have := Val.cans_ok_mem h2 x hx
          exact ⟨this.1, .inr this.2⟩
theorem Val.cans_eq : ∀ {l : List Val}, (∀ y ∈ l, y.can.2 = 0) → Val.cans l = (l.map fun y => y.can.1, 0)
  | [], _ => rfl
  | y :: r, h => by
    have h1 := h y (by simp)
    have h2 := Val.cans_eq (l := r) fun z hz => h z (by simp [hz])
    simp [Val.cans, h1, h2]
theorem Val.cans_get : ∀ {l : List Val}, (Val.cans l).2 = 0 → (Val.cans l).1 = l.map fun y => y.can.1 := fun h => by rw [Val.cans_eq fun y hy => (Val.cans_ok_mem h y hy).1]
/-- the first error of a row -/
theorem Val.cans_err : ∀ {l : List Val}, (Val.cans l).2 ≠ 0 → ∃ y ∈ l, y.can.2 = (Val.cans l).2
  | [], h => by simp [Val.cans] at h
  | y :: r, h => by
    simp only [Val.cans] at h ⊢
    split
    · exact ⟨y, by simp, rfl⟩
    · rename_i h1
      rw [if_neg h1] at h
      split at h
      · rename_i h2
        obtain ⟨z, hz, e⟩ := Val.cans_err h2
        exact ⟨z, by simp [hz], by rw [if_pos h2, e]⟩
      · rename_i h2; simp at h2; exact absurd rfl h

theorem Val.strict_nodup {l : List ByteArray} (h : Strict cmpS l) : l.Nodup := by
  rw [List.nodup_iff_pairwise_ne]
  refine h.imp fun {a b} h e => ?_
  subst e
  rw [(GoodAt.cmpS a).refl] at h; cases h
theorem record_cases (names : List ByteArray) (l : List Val) : (names.Nodup ∧ record names l = (.mk 6 false 0 empty empty empty ((sortU cmpN (names.zip l)).map (·.2)) ((sortU cmpN (names.zip l)).map (·.1)), 0)) ∨ (¬ names.Nodup ∧ record names l = (.zero, 13)) := by
  unfold record
  by_cases h : names.Nodup
  · exact .inl ⟨h, by rw [if_pos h]⟩
  · exact .inr ⟨h, by rw [if_neg h]⟩

theorem sortN_strict (l : List (ByteArray × Val)) : Strict cmpS ((sortU cmpN l).map (·.1)) := by
  unfold Strict
  rw [List.pairwise_map]
  exact (sortU_strict GoodAt.cmpN l).imp fun h => h
theorem sortN_len (l : List (ByteArray × Val)) : (sortU cmpN l).length ≤ l.length := by
  have key : ∀ (l a : List (ByteArray × Val)), (l.foldl (fun a x => ins cmpN x a) a).length ≤ l.length + a.length := by
    intro l
    induction l with
    | nil => intro a; simp
    | cons x r ih =>
      intro a
      rw [List.foldl_cons]
      have h1 := ih (ins cmpN x a)
      have h2 : ∀ a : List (ByteArray × Val), (ins cmpN x a).length ≤ a.length + 1 := by
        intro a
        induction a with
        | nil => simp [ins]
        | cons y s ih => simp only [ins]; split <;> (try split) <;> simp <;> omega
      have := h2 a
      simp; omega
  simpa [sortU] using key l []
theorem sortV_len (l : List Val) : (sortU Val.ord l).length ≤ l.length := by
  have key : ∀ (l a : List Val), (l.foldl (fun a x => ins Val.ord x a) a).length ≤ l.length + a.length := by
    intro l
    induction l with
    | nil => intro a; simp
    | cons x r ih =>
      intro a
      rw [List.foldl_cons]
      have h1 := ih (ins Val.ord x a)
      have h2 : ∀ a : List Val, (ins Val.ord x a).length ≤ a.length + 1 := by
        intro a
        induction a with
        | nil => simp [ins]
        | cons y s ih => simp only [ins]; split <;> (try split) <;> simp <;> omega
      have := h2 a
      simp; omega
  simpa [sortU] using key l []

/-- what canon comes to is as it must be -/
theorem Val.can_is_at : ∀ (n : Nat) (v : Val), SizeOf.sizeOf v ≤ n → v.can.2 = 0 → v.can.1.Is
  | 0, v, h, _ => by cases v; simp at h
  | n + 1, v, h, h0 => by
    have hmem : (Val.cans v.items).2 = 0 → ∀ x ∈ (Val.cans v.items).1, x.Is := fun hc x hx => by
      obtain ⟨y, hy, e⟩ := Val.cans_mem hc x hx
      have := Val.can_is_at n y (by have := Val.mem_size hy; omega) (by rw [e])
      rwa [e] at this
    rw [Val.can_def] at h0 ⊢
    by_cases h1 : v.kind = 1
    · rw [if_pos h1]; simp [Val.Is]
    rw [if_neg h1] at h0 ⊢
    by_cases h2 : v.kind = 2
    · rw [if_pos h2]; simp [Val.Is]
    rw [if_neg h2] at h0 ⊢
    by_cases h3 : v.kind = 3
    · rw [if_pos h3]; simp [Val.Is]
    rw [if_neg h3] at h0 ⊢
    by_cases h4 : v.kind = 4
    · rw [if_pos h4]; simp [Val.Is]
    rw [if_neg h4] at h0 ⊢
    by_cases h5 : v.kind = 5
    · rw [if_pos h5] at h0 ⊢
      by_cases hc : (Val.cans v.items).2 ≠ 0
      · rw [if_pos hc] at h0; exact absurd h0 hc
      rw [if_neg hc] at h0 ⊢
      by_cases hl : 4096 < v.items.length
      · rw [if_pos hl] at h0; cases h0
      rw [if_neg hl]
      simp only [ne_eq, Decidable.not_not] at hc
      have hlen := Val.cans_length hc
      have := sortV_len (Val.cans v.items).1
      unfold Val.Is
      refine .inr (.inr (.inr (.inr (.inl ⟨rfl, rfl, rfl, rfl, rfl, rfl, rfl, sortU_strict Val.goodAt _, by omega, (Val.are_iff _).2 fun x hx => hmem hc x (sortU_mem_of hx)⟩))))
    rw [if_neg h5] at h0 ⊢
    by_cases h6 : v.kind = 6
    · rw [if_pos h6] at h0 ⊢
      by_cases hn : v.names.length ≠ v.items.length
      · rw [if_pos hn] at h0; cases h0
      rw [if_neg hn] at h0 ⊢
      by_cases hc : (Val.cans v.items).2 ≠ 0
      · rw [if_pos hc] at h0; exact absurd h0 hc
      rw [if_neg hc] at h0 ⊢
      by_cases hl : 4096 < v.items.length
      · rw [if_pos hl] at h0; cases h0
      rw [if_neg hl] at h0 ⊢
      simp only [ne_eq, Decidable.not_not] at hc hn
      have hlen := Val.cans_length hc
      rcases record_cases v.names (Val.cans v.items).1 with ⟨_, e⟩ | ⟨_, e⟩
      · rw [e]
        have := sortN_len (v.names.zip (Val.cans v.items).1)
        rw [List.length_zip] at this
        unfold Val.Is
        refine .inr (.inr (.inr (.inr (.inr ⟨rfl, rfl, rfl, rfl, rfl, rfl, by simp, sortN_strict _, by rw [List.length_map]; omega, (Val.are_iff _).2 fun x hx => ?_⟩))))
        obtain ⟨p, hp, rfl⟩ := List.mem_map.1 hx
        exact hmem hc _ (List.of_mem_zip (a := p.1) (b := p.2) (sortU_mem_of hp)).2
      · rw [e] at h0; cases h0
    rw [if_neg h6] at h0; cases h0
theorem Val.can_is {v : Val} (h : v.can.2 = 0) : v.can.1.Is := Val.can_is_at _ v (Nat.le_refl _) h

/-- a record of names that rise is as it is -/
theorem record_strict {names : List ByteArray} {l : List Val} (hl : names.length = l.length) (h : Strict cmpS names) : record names l = (.mk 6 false 0 empty empty empty l names, 0) := by
  have hz : Strict cmpN (names.zip l) := by
    unfold Strict at h ⊢
    rw [List.pairwise_iff_getElem] at h ⊢
    intro i j hi hj hij
    rw [List.getElem_zip, List.getElem_zip]
    exact h i j (by simp at hi; omega) (by simp at hj; omega) hij
  have hu : sortU cmpN (names.zip l) = names.zip l := by
    refine sortU_of_strict GoodAt.cmpN (P := fun x => x ∈ names.zip l) (fun x y hx hy h0 => ?_) (fun x hx => hx) hz
    obtain ⟨i, hi, rfl⟩ := List.getElem_of_mem hx
    obtain ⟨j, hj, rfl⟩ := List.getElem_of_mem hy
    rcases Nat.lt_trichotomy i j with h1 | h1 | h1
    · have := (List.pairwise_iff_getElem.1 hz) i j hi hj h1; omega
    · subst h1; rfl
    · have h2 := (List.pairwise_iff_getElem.1 hz) j i hj hi h1
      have h3 := (GoodAt.cmpN (names.zip l)[i]).turn (names.zip l)[j]
      omega
  unfold record
  rw [if_pos (Val.strict_nodup h), hu, List.map_fst_zip (by omega), List.map_snd_zip (by omega)]

/-- what is as it must be stays so -/
theorem Val.can_of_is_at : ∀ (n : Nat) (v : Val), SizeOf.sizeOf v ≤ n → v.Is → v.can = (v, 0)
  | 0, v, h, _ => by cases v; simp at h
  | n + 1, .mk k bo i t ut ui items names, h, hi => by
    have hc : Val.Are items → Val.cans items = (items, 0) := fun ha => by
      have h1 : ∀ y ∈ items, y.can = (y, 0) := fun y hy => Val.can_of_is_at n y (by have := List.sizeOf_lt_of_mem hy; simp at h; omega) ((Val.are_iff _).1 ha y hy)
      rw [Val.cans_eq fun y hy => by rw [h1 y hy]]
      congr 1
      rw [List.map_congr_left (g := id) fun y hy => by rw [h1 y hy]; rfl]
      simp
    simp only [Val.Is] at hi
    rcases hi with ⟨rfl, hi⟩ | ⟨rfl, hi⟩ | ⟨rfl, hi⟩ | ⟨rfl, hi⟩ | ⟨rfl, hi⟩ | ⟨rfl, hi⟩
    · obtain ⟨rfl, rfl, rfl, rfl, rfl, rfl⟩ := hi; simp [Val.can]
    · obtain ⟨rfl, rfl, rfl, rfl, rfl, rfl⟩ := hi; simp [Val.can]
    · obtain ⟨rfl, rfl, rfl, rfl, rfl, rfl⟩ := hi; simp [Val.can]
    · obtain ⟨rfl, rfl, rfl, rfl, rfl⟩ := hi; simp [Val.can]
    · obtain ⟨rfl, rfl, rfl, rfl, rfl, rfl, hs, hl, ha⟩ := hi
      have hs' := sortU_of_strict Val.goodAt (P := Val.Is) (fun x y hx hy h0 => Val.eq_ord hx hy h0) (fun x hx => (Val.are_iff _).1 ha x hx) hs
      have hl' : ¬ 4096 < items.length := by omega
      rw [Val.can5]
      simp [hc ha, hs', hl']
    · obtain ⟨rfl, rfl, rfl, rfl, rfl, hn, hs, hl, ha⟩ := hi
      have hl' : ¬ 4096 < items.length := by omega
      rw [Val.can6]
      simp [hc ha, hl', hn, record_strict hn hs]
theorem Val.can_of_is {v : Val} (h : v.Is) : v.can = (v, 0) := Val.can_of_is_at _ v (Nat.le_refl _) h

theorem Val.deps_congr {l m : List Val} (h1 : ∀ x ∈ l, ∃ y ∈ m, y.dep = x.dep) (h2 : ∀ y ∈ m, ∃ x ∈ l, x.dep = y.dep) : Val.deps l = Val.deps m :=
  Nat.le_antisymm (Val.deps_le fun x hx => by obtain ⟨y, hy, e⟩ := h1 x hx; have := Val.deps_mem hy; omega) (Val.deps_le fun y hy => by obtain ⟨x, hx, e⟩ := h2 y hy; have := Val.deps_mem hx; omega)

/-- it is as deep -/
theorem Val.can_dep_at : ∀ (n : Nat) (v : Val), SizeOf.sizeOf v ≤ n → v.can.2 = 0 → v.can.1.dep = v.dep
  | 0, v, h, _ => by cases v; simp at h
  | n + 1, v, h, h0 => by
    have hm1 : (Val.cans v.items).2 = 0 → ∀ x ∈ (Val.cans v.items).1, x.Is ∧ ∃ y ∈ v.items, y.dep = x.dep := fun hc x hx => by
      obtain ⟨y, hy, e⟩ := Val.cans_mem hc x hx
      have h1 := Val.can_dep_at n y (by have := Val.mem_size hy; omega) (by rw [e])
      have h2 := Val.can_is (v := y) (by rw [e])
      rw [e] at h1 h2
      exact ⟨h2, y, hy, h1.symm⟩
    have hm2 : (Val.cans v.items).2 = 0 → ∀ y ∈ v.items, ∃ x ∈ (Val.cans v.items).1, x.dep = y.dep := fun hc y hy => by
      obtain ⟨h1, h2⟩ := Val.cans_ok_mem hc y hy
      exact ⟨_, h2, Val.can_dep_at n y (by have := Val.mem_size hy; omega) h1⟩
    have hd : v.dep = if v.kind = 5 ∨ v.kind = 6 then Val.deps v.items + 1 else 1 := by cases v; rfl
    rw [Val.can_def] at h0 ⊢
    by_cases h1 : v.kind = 1
    · rw [if_pos h1, hd]; simp [Val.dep, h1]
    rw [if_neg h1] at h0 ⊢
    by_cases h2 : v.kind = 2
    · rw [if_pos h2, hd]; simp [Val.dep, h2]
    rw [if_neg h2] at h0 ⊢
    by_cases h3 : v.kind = 3
    · rw [if_pos h3, hd]; simp [Val.dep, h3]
    rw [if_neg h3] at h0 ⊢
    by_cases h4 : v.kind = 4
    · rw [if_pos h4, hd]; simp [Val.dep, h4]
    rw [if_neg h4] at h0 ⊢
    by_cases h5 : v.kind = 5
    · rw [if_pos h5] at h0 ⊢
      by_cases hc : (Val.cans v.items).2 ≠ 0
      · rw [if_pos hc] at h0; exact absurd h0 hc
      rw [if_neg hc] at h0 ⊢
      by_cases hl : 4096 < v.items.length
      · rw [if_pos hl] at h0; cases h0
      rw [if_neg hl, hd, if_pos (.inl h5)]
      simp only [ne_eq, Decidable.not_not] at hc
      simp only [Val.dep, true_or, if_true]
      have hsm : ∀ x, x ∈ sortU Val.ord (Val.cans v.items).1 ↔ x ∈ (Val.cans v.items).1 := sortU_mem (P := Val.Is) (fun x y hx hy h0 => Val.eq_ord hx hy h0) fun x hx => (hm1 hc x hx).1
      rw [Val.deps_congr (m := v.items) (fun x hx => (hm1 hc x ((hsm x).1 hx)).2) (fun y hy => by obtain ⟨x, hx, e⟩ := hm2 hc y hy; exact ⟨x, (hsm x).2 hx, e⟩)]
    rw [if_neg h5] at h0 ⊢
    by_cases h6 : v.kind = 6
    · rw [if_pos h6] at h0 ⊢
      by_cases hn : v.names.length ≠ v.items.length
      · rw [if_pos hn] at h0; cases h0
      rw [if_neg hn] at h0 ⊢
      by_cases hc : (Val.cans v.items).2 ≠ 0
      · rw [if_pos hc] at h0; exact absurd h0 hc
      rw [if_neg hc] at h0 ⊢
      by_cases hl : 4096 < v.items.length
      · rw [if_pos hl] at h0; cases h0
      rw [if_neg hl] at h0 ⊢
      simp only [ne_eq, Decidable.not_not] at hc hn
      have hlen := Val.cans_length hc
      rcases record_cases v.names (Val.cans v.items).1 with ⟨hnd, e⟩ | ⟨_, e⟩
      · rw [e, hd, if_pos (.inr h6)]
        simp only [Val.dep, or_true, if_true]
        have hsm : ∀ x, x ∈ sortU cmpN (v.names.zip (Val.cans v.items).1) ↔ x ∈ v.names.zip (Val.cans v.items).1 := by
          refine sortU_mem (P := fun x => x ∈ v.names.zip (Val.cans v.items).1) (fun x y hx hy h0 => ?_) fun x hx => hx
          obtain ⟨i, hi, rfl⟩ := List.getElem_of_mem hx
          obtain ⟨j, hj, rfl⟩ := List.getElem_of_mem hy
          have he := cmpS_eq h0
          rw [List.getElem_zip, List.getElem_zip] at he
          rw [List.nodup_iff_pairwise_ne, List.pairwise_iff_getElem] at hnd
          rcases Nat.lt_trichotomy i j with h1 | h1 | h1
          · exact absurd he (hnd i j (by simp at hi; omega) (by simp at hj; omega) h1)
          · subst h1; rfl
          · exact absurd he.symm (hnd j i (by simp at hj; omega) (by simp at hi; omega) h1)
        rw [Val.deps_congr (m := v.items) (fun x hx => ?_) (fun y hy => ?_)]
        · obtain ⟨p, hp, rfl⟩ := List.mem_map.1 hx
          exact (hm1 hc _ (List.of_mem_zip (a := p.1) (b := p.2) ((hsm p).1 hp)).2).2
        · obtain ⟨x, hx, e⟩ := hm2 hc y hy
          obtain ⟨i, hi, rfl⟩ := List.getElem_of_mem hx
          refine ⟨(Val.cans v.items).1[i], List.mem_map.2 ⟨(v.names[i]'(by omega), (Val.cans v.items).1[i]), (hsm _).2 ?_, rfl⟩, e⟩
          exact List.mem_of_getElem? (i := i) (List.getElem?_zip_eq_some.2 ⟨List.getElem?_eq_getElem (by omega), List.getElem?_eq_getElem hi⟩)
      · rw [e] at h0; cases h0
    rw [if_neg h6] at h0; cases h0
theorem Val.can_dep {v : Val} (h : v.can.2 = 0) : v.can.1.dep = v.dep := Val.can_dep_at _ v (Nat.le_refl _) h

theorem Val.canon_ok {v : Val} (h : v.canon.2 = 0) : v.dep ≤ 50 ∧ v.canon = v.can ∧ v.can.2 = 0 := by
  unfold Val.canon at h ⊢
  by_cases hd : 50 < v.dep
  · rw [if_pos hd] at h; cases h
  · rw [if_neg hd] at h ⊢; exact ⟨by omega, rfl, h⟩
end Go.Proofs.Ytpkgkabcikmopaa
