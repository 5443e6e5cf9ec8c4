/-
  Entities one above the other, some of them two steps at once: what is above what. No program in sight. The conditions: none (definitions and lemmas).
-/
import Derived.Test.YtjllolagcdjlnaaGreatGi
namespace Go.Proofs.YtjllolagcdjlnaaGreat
open Go.RowKit

/-- what must be does not change what is above what -/
theorem above_canon {l : List Ent} (h : Good l) {u v : Uid} : Above (canonE l).1 u v ↔ Above l u v := by
  constructor
  · rintro ⟨x, hx, rfl, hv, hm⟩
    obtain ⟨e, he, rfl⟩ := (canonE_mem h x).1 hx
    exact ⟨e, he, rfl, sortU_names_mem.1 hv, (canonE_names h).mem_iff.1 hm⟩
  · rintro ⟨e, he, rfl, hv, hm⟩
    exact ⟨putE e, (canonE_mem h _).2 ⟨e, he, rfl⟩, rfl, sortU_names_mem.2 hv, (canonE_names h).mem_iff.2 hm⟩
theorem upTo_of {l m : List Ent} (h : ∀ u v, Above l u v → Above m u v) {u v : Uid} (k : UpTo l u v) : UpTo m u v := by
  induction k with
  | one h1 => exact .one (h _ _ h1)
  | more _ h1 ih => exact .more ih (h _ _ h1)
theorem upTo_canon {l : List Ent} (h : Good l) {u v : Uid} : UpTo (canonE l).1 u v ↔ UpTo l u v := ⟨upTo_of fun _ _ => (above_canon h).1, upTo_of fun _ _ => (above_canon h).2⟩

def psS (k : Nat) (s : Nat → Bool) (i : Nat) : List Uid := (if i + 1 < k then [uN (i + 1)] else []) ++ if i + 2 < k ∧ s i = true then [uN (i + 2)] else []
def entS (k : Nat) (s : Nat → Bool) (i : Nat) : Ent := ⟨uN i, psS k s i, recV⟩
def esS (k : Nat) (s : Nat → Bool) : List Ent := (List.range k).map (entS k s)
theorem esS_length (k : Nat) (s : Nat → Bool) : (esS k s).length = k := by simp [esS]
theorem esS_get {k i : Nat} {s : Nat → Bool} (h : i < k) : (esS k s)[i]? = some (entS k s i) := by simp [esS, h]
theorem psS_length (k : Nat) (s : Nat → Bool) (i : Nat) : (psS k s i).length ≤ 2 := by
  unfold psS
  by_cases h : i + 1 < k <;> by_cases h2 : i + 2 < k ∧ s i = true <;> simp [h, h2]
section
variable {k : Nat} {s : Nat → Bool} {m : List Ent}
theorem memS (hm : m.Perm (esS k s)) {e : Ent} : e ∈ m ↔ ∃ i, i < k ∧ e = entS k s i := by
  rw [hm.mem_iff]
  simp only [esS, List.mem_map, List.mem_range]
  exact ⟨fun ⟨i, h1, h2⟩ => ⟨i, h1, h2.symm⟩, fun ⟨i, h1, h2⟩ => ⟨i, h1, h2.symm⟩⟩
theorem memSu (hm : m.Perm (esS k s)) {u : Uid} : u ∈ m.map Ent.uid ↔ ∃ i, i < k ∧ u = uN i := by
  rw [List.mem_map]
  constructor
  · rintro ⟨e, he, rfl⟩
    obtain ⟨i, hi, rfl⟩ := (memS hm).1 he
    exact ⟨i, hi, rfl⟩
  · rintro ⟨i, hi, rfl⟩
    exact ⟨_, (memS hm).2 ⟨i, hi, rfl⟩, rfl⟩
theorem nodupS (hk : k ≤ 12) (hm : m.Perm (esS k s)) : (m.map Ent.uid).Nodup := by
  rw [(hm.map Ent.uid).nodup_iff]
  simp only [esS, List.map_map]
  rw [List.Nodup, List.pairwise_map]
  refine List.Pairwise.imp_of_mem ?_ (List.nodup_range (n := k))
  intro a b ha hb hne h
  simp only [List.mem_range] at ha hb
  exact hne (uN_inj (by omega) (by omega) h)
theorem mem_psS (hk : k ≤ 12) {i j : Nat} (_hi : i < k) (hj : j < k) : uN j ∈ psS k s i ↔ (j = i + 1 ∨ (j = i + 2 ∧ s i = true)) := by
  unfold psS
  rw [List.mem_append]
  constructor
  · rintro (h | h)
    · split at h
      · simp at h
        exact .inl (uN_inj (by omega) (by omega) h)
      · simp at h
    · split at h
      · rename_i h2
        simp at h
        exact .inr ⟨uN_inj (by omega) (by omega) h, h2.2⟩
      · simp at h
  · rintro (rfl | ⟨rfl, h⟩)
    · left; rw [if_pos hj]; simp
    · right; rw [if_pos ⟨hj, h⟩]; simp
theorem psS_names {i : Nat} {p : Uid} (h : p ∈ psS k s i) : ∃ j, i < j ∧ j < k ∧ p = uN j := by
  unfold psS at h
  rcases List.mem_append.1 h with h | h
  · split at h
    · simp at h; exact ⟨i + 1, by omega, by assumption, h⟩
    · simp at h
  · split at h
    · rename_i h2
      simp at h; exact ⟨i + 2, by omega, h2.1, h⟩
    · simp at h
theorem above_S (hk : k ≤ 12) (hm : m.Perm (esS k s)) {i j : Nat} (hi : i < k) (hj : j < k) : Above m (uN i) (uN j) ↔ (j = i + 1 ∨ (j = i + 2 ∧ s i = true)) := by
  rw [← mem_psS hk hi hj]
  constructor
  · rintro ⟨e, he, hu, hp, _⟩
    obtain ⟨i', hi', rfl⟩ := (memS hm).1 he
    obtain rfl : i' = i := uN_inj (by omega) (by omega) hu
    exact hp
  · intro h
    exact ⟨entS k s i, (memS hm).2 ⟨i, hi, rfl⟩, rfl, h, (memSu hm).2 ⟨j, hj, rfl⟩⟩
theorem upTo_S (hk : k ≤ 12) (hm : m.Perm (esS k s)) {i j : Nat} (hi : i < k) (hj : j < k) : UpTo m (uN i) (uN j) ↔ i < j := by
  constructor
  · intro h
    generalize hu : uN i = u at h
    generalize hv : uN j = v at h
    induction h generalizing j with
    | one h1 =>
      subst hu hv
      rcases (above_S hk hm hi hj).1 h1 with h | h <;> omega
    | more h0 h1 ih =>
      subst hu hv
      obtain ⟨q, hq, hqe⟩ := (memSu hm).1 h0.names.2
      subst hqe
      have := ih hq rfl
      rcases (above_S hk hm hq hj).1 h1 with h | h <;> omega
  · intro h
    obtain ⟨d, rfl⟩ : ∃ d, j = i + 1 + d := ⟨j - i - 1, by omega⟩
    clear h
    induction d with
    | zero => exact .one ((above_S hk hm hi hj).2 (.inl rfl))
    | succ d ih => exact .more (ih (by omega)) ((above_S hk hm (by omega) hj).2 (.inl (by omega)))
theorem roundedS (hk : k ≤ 12) (hm : m.Perm (esS k s)) : ¬ Rounded m := by
  rintro ⟨u, hu, ha⟩
  obtain ⟨i, hi, rfl⟩ := (memSu hm).1 hu
  have key : ∀ i, i < k → Acc (Above m) (uN i) := by
    intro i
    induction i using Nat.strongRecOn with
    | ind i ih =>
      intro hi
      refine ⟨_, fun v hv => ?_⟩
      have hv0 := hv
      obtain ⟨e, he, rfl, _⟩ := hv
      obtain ⟨j, hj, rfl⟩ := (memS hm).1 he
      rcases (above_S hk hm hj hi).1 hv0 with h | h
      · exact ih j (by omega) hj
      · exact ih j (by omega) hj
  exact ha (key i hi)
theorem goodS (hk : k ≤ 12) (hm : m.Perm (esS k s)) : Good m := by
  refine ⟨by rw [hm.length_eq, esS_length]; omega, nodupS hk hm, fun e he => ?_, roundedS hk hm⟩
  obtain ⟨i, hi, rfl⟩ := (memS hm).1 he
  refine ⟨rfl, by show recV.canon.2 = 0; rw [recV_canon], fun p hp => ?_⟩
  obtain ⟨j, _, hj, rfl⟩ := psS_names hp
  exact (memSu hm).2 ⟨j, hj, rfl⟩
/-- how many are above -/
theorem countS (hk : k ≤ 12) (hm : m.Perm (esS k s)) {i : Nat} (hi : i < k) {l : List Uid} (hn : l.Nodup) (h : ∀ q, q ∈ l ↔ UpTo m (uN i) q) : l.length = k - 1 - i := by
  have hu : ((List.range' (i + 1) (k - 1 - i)).map uN).Nodup := by
    rw [List.Nodup, List.pairwise_map]
    refine List.Pairwise.imp_of_mem ?_ (List.nodup_range' (s := i + 1) (n := k - 1 - i))
    intro a b ha hb hne he
    simp only [List.mem_range'_1] at ha hb
    exact hne (uN_inj (by omega) (by omega) he)
  have hmem : ∀ q, q ∈ (List.range' (i + 1) (k - 1 - i)).map uN ↔ UpTo m (uN i) q := fun q => by
    rw [List.mem_map]
    constructor
    · rintro ⟨j, hj, rfl⟩
      simp only [List.mem_range'_1] at hj
      exact (upTo_S hk hm hi (by omega)).2 (by omega)
    · intro hq
      obtain ⟨j, hj, rfl⟩ := (memSu hm).1 hq.names.2
      have := (upTo_S hk hm hi hj).1 hq
      exact ⟨j, by simp only [List.mem_range'_1]; omega, rfl⟩
  have h1 := length_le_of_subset hn fun q hq => (hmem q).2 ((h q).1 hq)
  have h2 := length_le_of_subset hu fun q hq => (h q).2 ((hmem q).1 hq)
  simp at h1 h2
  omega
end
theorem strict_nodup {l : List Uid} (h : Strict ordU l) : l.Nodup := h.imp fun {a b} h e => by subst e; rw [ordU_self] at h; cases h
end Go.Proofs.YtjllolagcdjlnaaGreat
