/-
  Plain laws behind layer 3's laws: sets with the same members are the same; a union's members; a set of one; a record's attributes. No program in sight. The conditions: none (lemmas).
-/
import Derived.Test.YtpkgkabcikmopaaFacts
import Derived.Test.YtpkgkabcikmopaaGet
import Derived.Test.YtpkgkabcikmopaaWhole
namespace Go.Proofs.Ytpkgkabcikmopaa
open Go.RowKit

def Val.setV (l : List Val) : Val := .mk 5 false 0 empty empty empty l []

theorem Val.setV_dep (l : List Val) : (Val.setV l).dep = Val.deps l + 1 := by simp [Val.setV, Val.dep]
theorem Val.setV_can {l : List Val} (h : (Val.cans l).2 = 0) (hl : l.length ≤ 4096) : (Val.setV l).can = (Val.setV (sortU Val.ord (Val.cans l).1), 0) := by
  unfold Val.setV
  rw [Val.can5]
  simp [h, Nat.not_lt.2 hl]
theorem Val.setV_canon {l : List Val} (h : (Val.cans l).2 = 0) (hl : l.length ≤ 4096) (hd : Val.deps l + 1 ≤ 50) : (Val.setV l).canon = (Val.setV (sortU Val.ord (Val.cans l).1), 0) := by
  unfold Val.canon
  rw [if_neg (by rw [Val.setV_dep]; omega), Val.setV_can h hl]
theorem Val.setV_deep {l : List Val} (hd : 50 < Val.deps l + 1) : (Val.setV l).canon = (.zero, 11) := by
  unfold Val.canon
  rw [if_pos (by rw [Val.setV_dep]; exact hd)]

theorem cans_of_canon {l : List Val} (h : ∀ x ∈ l, x.canon.2 = 0) : Val.cans l = (l.map fun x => x.canon.1, 0) := by
  rw [Val.cans_eq fun y hy => (Val.canon_ok (h y hy)).2.2]
  congr 1
  exact List.map_congr_left fun y hy => by rw [(Val.canon_ok (h y hy)).2.1]
theorem canon_is {v : Val} (h : v.canon.2 = 0) : v.canon.1.Is := by
  obtain ⟨_, h2, h3⟩ := Val.canon_ok h
  rw [h2]; exact Val.can_is h3
theorem canon_again {v : Val} (h : v.canon.2 = 0) : v.canon.1.canon = (v.canon.1, 0) := by
  obtain ⟨h1, h2, h3⟩ := Val.canon_ok h
  have h4 := Val.can_dep h3
  rw [h2]
  unfold Val.canon
  rw [if_neg (by omega), Val.can_of_is (Val.can_is h3)]
theorem canon_dep {v : Val} (h : v.canon.2 = 0) : v.canon.1.dep = v.dep ∧ v.dep ≤ 50 := by
  obtain ⟨h1, h2, h3⟩ := Val.canon_ok h
  rw [h2]; exact ⟨Val.can_dep h3, h1⟩
theorem sort_mem {l : List Val} (h : ∀ x ∈ l, x.Is) (y : Val) : y ∈ sortU Val.ord l ↔ y ∈ l := sortU_mem (P := Val.Is) (fun _ _ hx hy h0 => Val.eq_ord hx hy h0) h y
theorem holds_mem {l : List Val} {x : Val} (hl : ∀ y ∈ l, y.Is) (hx : x.Is) : (Val.setV (sortU Val.ord l)).holds x = true ↔ x ∈ l := by
  unfold Val.holds Val.setV
  simp only [Val.kind, Val.items]
  simp only [beq_self_eq_true, Bool.true_and, List.any_eq_true, beq_iff_eq]
  constructor
  · rintro ⟨y, hy, h0⟩
    have h1 := (sort_mem hl y).1 hy
    rw [← Val.eq_ord (hl y h1) hx h0]; exact h1
  · intro h
    exact ⟨x, (sort_mem hl x).2 h, (Val.goodAt x).refl⟩

/-- sets with the same members -/
theorem laws_sets {a b c : Val} (ha : a.canon.2 = 0) (hb : b.canon.2 = 0) (hc : c.canon.2 = 0) :
    ((Val.setV [a, b, c, a]).canon.2 = 11 ∧ (Val.setV [c, a, b]).canon.2 = 11) ∨
    ((Val.setV [a, b, c, a]).canon.2 = 0 ∧ (Val.setV [c, a, b]).canon.2 = 0 ∧ (Val.setV [a, b, c, a]).canon.1 = (Val.setV [c, a, b]).canon.1 ∧ (Val.setV [a, b, c, a]).canon.1.holds b.canon.1 = true) := by
  have hd : Val.deps [a, b, c, a] = Val.deps [c, a, b] := by simp only [Val.deps]; omega
  have h1 : ∀ x ∈ [a, b, c, a], x.canon.2 = 0 := by simp [ha, hb, hc]
  have h2 : ∀ x ∈ [c, a, b], x.canon.2 = 0 := by simp [ha, hb, hc]
  by_cases hdd : 50 < Val.deps [a, b, c, a] + 1
  · exact .inl ⟨by rw [Val.setV_deep hdd], by rw [Val.setV_deep (by rw [← hd]; exact hdd)]⟩
  · have e1 := cans_of_canon h1
    have e2 := cans_of_canon h2
    have i1 : ∀ x ∈ [a, b, c, a].map (fun x => x.canon.1), x.Is := fun x hx => by
      obtain ⟨y, hy, rfl⟩ := List.mem_map.1 hx; exact canon_is (h1 y hy)
    have i2 : ∀ x ∈ [c, a, b].map (fun x => x.canon.1), x.Is := fun x hx => by
      obtain ⟨y, hy, rfl⟩ := List.mem_map.1 hx; exact canon_is (h2 y hy)
    have c1 := Val.setV_canon (l := [a, b, c, a]) (by rw [e1]) (by simp) (by omega)
    have c2 := Val.setV_canon (l := [c, a, b]) (by rw [e2]) (by simp) (by rw [← hd]; omega)
    rw [e1] at c1
    rw [e2] at c2
    rw [c1, c2]
    have hs : sortU Val.ord ([a, b, c, a].map fun x => x.canon.1) = sortU Val.ord ([c, a, b].map fun x => x.canon.1) := by
      refine strict_unique Val.goodAt (sortU_strict Val.goodAt _) (sortU_strict Val.goodAt _) fun x => ?_
      rw [sort_mem i1, sort_mem i2]
      simp only [List.map_cons, List.map_nil, List.mem_cons, List.not_mem_nil, or_false]
      constructor
      · rintro (h | h | h | h)
        · exact .inr (.inl h)
        · exact .inr (.inr h)
        · exact .inl h
        · exact .inr (.inl h)
      · rintro (h | h | h)
        · exact .inr (.inr (.inl h))
        · exact .inl h
        · exact .inr (.inl h)
    refine .inr ⟨rfl, rfl, by rw [hs], ?_⟩
    exact (holds_mem i1 (canon_is hb)).2 (by simp)

/-- the order of three -/
theorem laws_order (k l m : Val) : k.ord l = -(l.ord k) ∧ (k.ord l ≤ 0 → l.ord m ≤ 0 → k.ord m ≤ 0) := by
  refine ⟨(Val.goodAt l).turn k, fun h1 h2 => ?_⟩
  have hr := (Val.goodAt k).range l
  by_cases h0 : k.ord l = 0
  · rw [← (Val.goodAt k).cong l m h0]; exact h2
  · have := (Val.goodAt k).less l m (by omega) h2; omega
theorem laws_same {k l : Val} (hk : k.Is) (hl : l.Is) : (k.ord l == 0) = eqB k l := by
  by_cases h : k = l
  · subst h
    rw [eqB_true.2 rfl, (Val.goodAt k).refl]; rfl
  · rw [eqB_false.2 h, beq_eq_false_iff_ne]
    exact fun h0 => h (Val.eq_ord hk hl h0)

theorem length_le_of_nodup : ∀ {l m : List Val}, l.Nodup → (∀ x ∈ l, x ∈ m) → l.length ≤ m.length
  | [], _, _, _ => by simp
  | x :: r, m, hn, h => by
    obtain ⟨h1, h2⟩ := List.nodup_cons.1 hn
    obtain ⟨s, t, rfl⟩ := List.append_of_mem (h x (by simp))
    have := length_le_of_nodup (l := r) (m := s ++ t) h2 fun y hy => by
      have h3 := h y (by simp [hy])
      rw [List.mem_append, List.mem_cons] at h3
      rw [List.mem_append]
      rcases h3 with h3 | h3 | h3
      · exact .inl h3
      · subst h3; exact absurd hy h1
      · exact .inr h3
    simp at this ⊢; omega

/-- unions -/
theorem unions {a b : List Val} {y : Val} (ha : (Val.setV a).canon.2 = 0) (hb : (Val.setV b).canon.2 = 0) (hy : y.Is) (hla : a.length ≤ 10) (hlb : b.length ≤ 10) :
    (Val.setV (a ++ b)).canon.2 = 0 ∧ (Val.setV (a ++ b)).canon.1.holds y = ((Val.setV a).canon.1.holds y || (Val.setV b).canon.1.holds y) ∧
      (Val.setV (a ++ b)).canon.1.items.length ≤ (Val.setV a).canon.1.items.length + (Val.setV b).canon.1.items.length := by
  obtain ⟨d1, e1, z1⟩ := Val.canon_ok ha
  obtain ⟨d2, e2, z2⟩ := Val.canon_ok hb
  rw [Val.setV_dep] at d1 d2
  have c0 : ∀ l : List Val, (Val.setV l).can.2 = 0 → (Val.cans l).2 = 0 ∧ l.length ≤ 4096 := fun l h => by
    unfold Val.setV at h
    rw [Val.can5] at h
    by_cases h1 : (Val.cans l).2 ≠ 0
    · rw [if_pos h1] at h; exact absurd h h1
    · rw [if_neg h1] at h
      by_cases h2 : 4096 < l.length
      · rw [if_pos h2] at h; cases h
      · exact ⟨by simpa using h1, by omega⟩
  obtain ⟨q1, _⟩ := c0 a z1
  obtain ⟨q2, _⟩ := c0 b z2
  have m1 := fun y hy => (Val.cans_ok_mem q1 y hy).1
  have m2 := fun y hy => (Val.cans_ok_mem q2 y hy).1
  have m3 : ∀ y ∈ a ++ b, y.can.2 = 0 := fun y hy => by
    rcases List.mem_append.1 hy with h | h
    · exact m1 y h
    · exact m2 y h
  have r1 := Val.cans_eq m1
  have r2 := Val.cans_eq m2
  have r3 := Val.cans_eq m3
  have hdd : Val.deps (a ++ b) + 1 ≤ 50 := by
    have : Val.deps (a ++ b) ≤ 49 := Val.deps_le fun x hx => by
      rcases List.mem_append.1 hx with h | h
      · have := Val.deps_mem h; omega
      · have := Val.deps_mem h; omega
    omega
  have s1 := Val.setV_canon (l := a) (by rw [r1]) (by omega) (by omega)
  have s2 := Val.setV_canon (l := b) (by rw [r2]) (by omega) (by omega)
  have s3 := Val.setV_canon (l := a ++ b) (by rw [r3]) (by simp; omega) hdd
  rw [r1] at s1
  rw [r2] at s2
  rw [r3] at s3
  have i1 : ∀ x ∈ a.map (fun x => x.can.1), x.Is := fun x hx => by
    obtain ⟨y, hy, rfl⟩ := List.mem_map.1 hx; exact Val.can_is (m1 y hy)
  have i2 : ∀ x ∈ b.map (fun x => x.can.1), x.Is := fun x hx => by
    obtain ⟨y, hy, rfl⟩ := List.mem_map.1 hx; exact Val.can_is (m2 y hy)
  have i3 : ∀ x ∈ (a ++ b).map (fun x => x.can.1), x.Is := fun x hx => by
    obtain ⟨y, hy, rfl⟩ := List.mem_map.1 hx; exact Val.can_is (m3 y hy)
  rw [s1, s2, s3]
  refine ⟨rfl, ?_, ?_⟩
  · show (Val.setV (sortU Val.ord ((a ++ b).map fun x => x.can.1))).holds y = ((Val.setV (sortU Val.ord (a.map fun x => x.can.1))).holds y || (Val.setV (sortU Val.ord (b.map fun x => x.can.1))).holds y)
    rw [Bool.eq_iff_iff, Bool.or_eq_true, holds_mem i1 hy, holds_mem i2 hy, holds_mem i3 hy, List.map_append, List.mem_append]
  · show (sortU Val.ord ((a ++ b).map fun x => x.can.1)).length ≤ (sortU Val.ord (a.map fun x => x.can.1)).length + (sortU Val.ord (b.map fun x => x.can.1)).length
    rw [← List.length_append]
    refine length_le_of_nodup ?_ fun x hx => ?_
    · rw [List.nodup_iff_pairwise_ne]
      refine (sortU_strict Val.goodAt _).imp fun {p q} h e => ?_
      subst e
      rw [(Val.goodAt p).refl] at h; cases h
    · rw [sort_mem i3, List.map_append, List.mem_append] at hx
      rw [List.mem_append, sort_mem i1, sort_mem i2]
      exact hx
/-- what is wrong with a part is wrong with the union -/
theorem unions_bad {a b : List Val} (h : (Val.setV a).canon.2 ≠ 0 ∨ (Val.setV b).canon.2 ≠ 0) (hla : a.length ≤ 10) (hlb : b.length ≤ 10) : (Val.setV (a ++ b)).canon.2 ≠ 0 := fun h0 => by
  obtain ⟨d, e, z⟩ := Val.canon_ok h0
  rw [Val.setV_dep] at d
  have hm : (Val.cans (a ++ b)).2 = 0 := by
    unfold Val.setV at z
    rw [Val.can5] at z
    by_cases h1 : (Val.cans (a ++ b)).2 ≠ 0
    · rw [if_pos h1] at z; exact absurd z h1
    · simpa using h1
  have key : ∀ l : List Val, (∀ x ∈ l, x ∈ a ++ b) → l.length ≤ 10 → (Val.setV l).canon.2 = 0 := fun l hl hll => by
    have r := Val.cans_eq (l := l) fun y hy => (Val.cans_ok_mem hm y (hl y hy)).1
    have : Val.deps l ≤ Val.deps (a ++ b) := Val.deps_le fun x hx => Val.deps_mem (hl x hx)
    rw [Val.setV_canon (by rw [r]) (by omega) (by omega)]
  rcases h with h | h
  · exact h (key a (fun x hx => by simp [hx]) hla)
  · exact h (key b (fun x hx => by simp [hx]) hlb)
end Go.Proofs.Ytpkgkabcikmopaa
