/-
  The plain law behind ValueRecords: what a record of names and numbers comes to. No program in sight. The conditions: as many names as numbers, at most fifteen.
-/
import Derived.Test.YtpkgkabcikmopaaLawsP
import Derived.Test.YtpkgkabcikmopaaAwake3
namespace Go.Proofs.Ytpkgkabcikmopaa
open Go.RowKit

def recV (names : List ByteArray) (nums : List Int) : Val := .mk 6 false 0 empty empty empty (nums.map Val.numV) names

theorem numV_is (n : Int) : (Val.numV n).Is := by unfold Val.numV Val.Is; exact .inr (.inl ⟨rfl, rfl, rfl, rfl, rfl, rfl, rfl⟩)
theorem recV_dep (names : List ByteArray) (nums : List Int) : (recV names nums).dep ≤ 2 := by
  have : Val.deps (nums.map Val.numV) ≤ 1 := Val.deps_le fun x hx => by
    obtain ⟨n, _, rfl⟩ := List.mem_map.1 hx
    simp [Val.numV, Val.dep]
  simp only [recV, Val.dep]
  simp; omega
theorem recV_canon {names : List ByteArray} {nums : List Int} (hl : names.length = nums.length) (h15 : names.length ≤ 15) : (recV names nums).canon = record names (nums.map Val.numV) := by
  have hd := recV_dep names nums
  have hc : Val.cans (nums.map Val.numV) = (nums.map Val.numV, 0) := by
    have h1 : ∀ y ∈ nums.map Val.numV, y.can = (y, 0) := fun y hy => by
      obtain ⟨n, _, rfl⟩ := List.mem_map.1 hy
      exact Val.can_of_is (numV_is n)
    rw [Val.cans_eq fun y hy => by rw [h1 y hy]]
    congr 1
    rw [List.map_congr_left (g := id) fun y hy => by rw [h1 y hy]; rfl]
    simp
  unfold Val.canon
  rw [if_neg (by omega)]
  unfold recV
  rw [Val.can6]
  simp [hc, hl]
  omega

theorem length_le_nodup {α : Type} : ∀ {l m : List α}, l.Nodup → (∀ x ∈ l, x ∈ m) → l.length ≤ m.length
  | [], _, _, _ => by simp
  | x :: r, m, hn, h => by
    obtain ⟨h1, h2⟩ := List.nodup_cons.1 hn
    obtain ⟨s, t, rfl⟩ := List.append_of_mem (h x (by simp))
    have := length_le_nodup (l := r) (m := s ++ t) h2 fun y hy => by
      have h3 := h y (by simp [hy])
      rw [List.mem_append, List.mem_cons] at h3
      rw [List.mem_append]
      rcases h3 with h3 | h3 | h3
      · exact .inl h3
      · subst h3; exact absurd hy h1
      · exact .inr h3
    simp at this ⊢; omega
theorem sort_zip_mem {names : List ByteArray} {l : List Val} (hnd : names.Nodup) (y : ByteArray × Val) : y ∈ sortU cmpN (names.zip l) ↔ y ∈ names.zip l := by
  refine sortU_mem (P := fun x => x ∈ names.zip l) (fun x y hx hy h0 => ?_) (fun x hx => hx) y
  obtain ⟨i, hi, rfl⟩ := List.getElem_of_mem hx
  obtain ⟨j, hj, rfl⟩ := List.getElem_of_mem hy
  have he := cmpS_eq h0
  rw [List.getElem_zip, List.getElem_zip] at he
  rw [List.nodup_iff_pairwise_ne, List.pairwise_iff_getElem] at hnd
  rcases Nat.lt_trichotomy i j with h1 | h1 | h1
  · exact absurd he (hnd i j (by simp at hi; omega) (by simp at hj; omega) h1)
  · subst h1; rfl
  · exact absurd he.symm (hnd j i (by simp at hj; omega) (by simp at hi; omega) h1)
theorem fidx_at {α : Type} {p : α → Bool} {l : List α} {k : Nat} {x : α} (hx : l[k]? = some x) (hp : p x = true) (hu : ∀ i y, l[i]? = some y → p y = true → i = k) : fidx p l = some k :=
  fidx_some hx hp fun i y hi hy => by
    cases h : p y with
    | false => rfl
    | true => have := hu i y hy h; omega

theorem recs_law {names : List ByteArray} {nums : List Int} (hl : names.length = nums.length) (h15 : names.length ≤ 15) :
    (¬ names.Nodup ∧ (recV names nums).canon = (.zero, 13)) ∨
    (names.Nodup ∧ ∃ c : Val, (recV names nums).canon = (c, 0) ∧ c.names.length = names.length ∧ c.items.length = c.names.length ∧ Strict cmpS c.names ∧
      ∀ (i : Nat) (nm : ByteArray) (x : Int), names[i]? = some nm → nums[i]? = some x → ∃ j, c.find nm = some j ∧ c.items[j]? = some (Val.numV x)) := by
  rw [recV_canon hl h15]
  rcases record_cases names (nums.map Val.numV) with ⟨hnd, e⟩ | ⟨hnd, e⟩
  · refine .inr ⟨hnd, _, e, ?_, ?_, ?_, ?_⟩
    · show ((sortU cmpN (names.zip (nums.map Val.numV))).map (·.1)).length = names.length
      have hzn : (names.zip (nums.map Val.numV)).map (·.1) = names := List.map_fst_zip (by simp; omega)
      have hm : ∀ y, y ∈ sortU cmpN (names.zip (nums.map Val.numV)) ↔ y ∈ names.zip (nums.map Val.numV) := sort_zip_mem hnd
      have hp : (sortU cmpN (names.zip (nums.map Val.numV))).length = (names.zip (nums.map Val.numV)).length := by
        refine Nat.le_antisymm (sortN_len _) ?_
        refine length_le_nodup (by
          have h1 : ((names.zip (nums.map Val.numV)).map (·.1)).Nodup := by rw [hzn]; exact hnd
          rw [List.nodup_iff_pairwise_ne, List.pairwise_map] at h1
          rw [List.nodup_iff_pairwise_ne]
          exact h1.imp fun {a b} h e => h (by rw [e])) fun x hx => (hm x).2 hx
      rw [List.length_map, hp, List.length_zip]; simp; omega
    · show ((sortU cmpN (names.zip (nums.map Val.numV))).map (·.2)).length = ((sortU cmpN (names.zip (nums.map Val.numV))).map (·.1)).length
      simp
    · exact sortN_strict _
    · intro i nm x hnm hx
      have hz : (nm, Val.numV x) ∈ sortU cmpN (names.zip (nums.map Val.numV)) := (sort_zip_mem hnd _).2 (List.mem_of_getElem? (i := i) (List.getElem?_zip_eq_some.2 ⟨hnm, by rw [List.getElem?_map, hx]; rfl⟩))
      obtain ⟨j, hj, ej⟩ := List.getElem_of_mem hz
      refine ⟨j, ?_, ?_⟩
      · unfold Val.find
        refine (if_pos (show (6 : Int) = 6 from rfl)).trans ?_
        have hs : Strict cmpS ((sortU cmpN (names.zip (nums.map Val.numV))).map (·.1)) := sortN_strict _
        have hfi : fidx (fun y : ByteArray => nm.toList == y.toList) ((sortU cmpN (names.zip (nums.map Val.numV))).map (·.1)) = some j := by
          refine fidx_at (x := nm) (by rw [List.getElem?_map, List.getElem?_eq_getElem hj, ej]; rfl) (by simp) fun k y hy hpy => ?_
          have hye : y = nm := (toList_inj (by simpa using hpy)).symm
          subst hye
          obtain ⟨hk, ek⟩ := List.getElem?_eq_some_iff.1 hy
          have hjl : j < ((sortU cmpN (names.zip (nums.map Val.numV))).map (·.1)).length := by simpa using hj
          have ejj : ((sortU cmpN (names.zip (nums.map Val.numV))).map (·.1))[j] = y := by rw [List.getElem_map, ej]
          rcases Nat.lt_trichotomy k j with h | h | h
          · have := (List.pairwise_iff_getElem.1 hs) k j hk hjl h
            rw [ek, ejj, (GoodAt.cmpS y).refl] at this; cases this
          · exact h
          · have := (List.pairwise_iff_getElem.1 hs) j k hjl hk h
            rw [ek, ejj, (GoodAt.cmpS y).refl] at this; cases this
        show ((fidx (fun y : ByteArray => nm.toList == y.toList) ((sortU cmpN (names.zip (nums.map Val.numV))).map (·.1))).bind fun i => if i < ((sortU cmpN (names.zip (nums.map Val.numV))).map (·.2)).length then some i else none) = some j
        rw [hfi]
        simp [hj]
      · show ((sortU cmpN (names.zip (nums.map Val.numV))).map (·.2))[j]? = some (Val.numV x)
        rw [List.getElem?_map, List.getElem?_eq_getElem hj, ej]; rfl
  · exact .inl ⟨hnd, e⟩
end Go.Proofs.Ytpkgkabcikmopaa
