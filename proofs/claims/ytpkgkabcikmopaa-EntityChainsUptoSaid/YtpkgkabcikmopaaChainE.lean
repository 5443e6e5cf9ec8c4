/-
  Entities one above the other: what is to be told of them. No program in sight. The conditions: none (definitions and lemmas).
-/
import Derived.Test.YtpkgkabcikmopaaCanE
namespace Go.Proofs.Ytpkgkabcikmopaa
open Go.RowKit

def abc : ByteArray := ⟨#[97, 98, 99, 100, 101, 102, 103, 104, 105, 106, 107, 108]⟩
def cN (i : Nat) : ByteArray := abc.extract i (i + 1)
def tU : ByteArray := ⟨#[85]⟩
def tV : ByteArray := ⟨#[86]⟩
def tA : ByteArray := ⟨#[97]⟩
def uN (i : Nat) : Uid := (tU, cN i)
def recV : Val := .mk 6 false 0 empty empty empty [] []
theorem recV_canon : recV.canon = (recV, 0) := by
  have : recV.dep ≤ 50 := by simp [recV, Val.dep, Val.deps]
  unfold Val.canon
  rw [if_neg (by omega)]
  simp [recV, Val.can, Val.cans, record, sortU]
theorem recV_kind : recV.kind = 6 := rfl

theorem cN_inj : ∀ i, i < 12 → ∀ j, j < 12 → cN i = cN j → i = j := by decide +kernel
theorem cN_zero : cN 0 = tA := by decide +kernel
theorem cN_size : ∀ i, i < 12 → (cN i).size = 1 := by decide +kernel
theorem cN_least : ∀ j, j < 12 → cmpS (cN j) (cN 0) ≠ -1 := by decide +kernel
theorem uN_inj {i j : Nat} (hi : i < 12) (hj : j < 12) (h : uN i = uN j) : i = j := cN_inj i hi j hj (congrArg Prod.snd h)
theorem uN_fit {i : Nat} (hi : i < 12) : FitU (uN i) := by
  have h1 := cN_size i hi
  constructor
  · show tU.size ≤ maxLen
    rw [maxLen_eq]; decide
  · show (cN i).size ≤ maxLen
    rw [maxLen_eq, h1]; decide

def psN (k : Nat) (close missing : Bool) (i : Nat) : List Uid :=
  (if i + 1 < k then [uN (i + 1)] else if close then [(tU, tA)] else []) ++ if missing && i == 0 then [(tV, empty)] else []
def entN (k : Nat) (close missing : Bool) (i : Nat) : Ent := ⟨uN i, psN k close missing i, recV⟩
def esN (k : Nat) (close missing : Bool) : List Ent := (List.range k).map (entN k close missing)
theorem esN_length (k : Nat) (close missing : Bool) : (esN k close missing).length = k := by simp [esN]
theorem esN_get {k i : Nat} {close missing : Bool} (h : i < k) : (esN k close missing)[i]? = some (entN k close missing i) := by simp [esN, h]
theorem psN_length (k : Nat) (close missing : Bool) (i : Nat) : (psN k close missing i).length ≤ 2 := by
  unfold psN
  generalize (missing && i == 0) = b
  cases b <;> cases close <;> by_cases h : i + 1 < k <;> simp [h]

/-- the row turned -/
def turned (at' : Nat) (l : List Ent) : List Ent := l.drop at' ++ l.take at'
theorem turned_perm (n : Nat) (l : List Ent) : (turned n l).Perm l := by
  unfold turned
  exact (List.perm_append_comm).trans (by rw [List.take_append_drop])

section
variable {k : Nat} {close missing : Bool} {m : List Ent}
theorem mem_m (hm : m.Perm (esN k close missing)) {e : Ent} : e ∈ m ↔ ∃ i, i < k ∧ e = entN k close missing i := by
  rw [hm.mem_iff]
  simp only [esN, List.mem_map, List.mem_range]
  exact ⟨fun ⟨i, h1, h2⟩ => ⟨i, h1, h2.symm⟩, fun ⟨i, h1, h2⟩ => ⟨i, h1, h2.symm⟩⟩
theorem mem_u (hm : m.Perm (esN k close missing)) {u : Uid} : u ∈ m.map Ent.uid ↔ ∃ i, i < k ∧ u = uN i := by
  rw [List.mem_map]
  constructor
  · rintro ⟨e, he, rfl⟩
    obtain ⟨i, hi, rfl⟩ := (mem_m hm).1 he
    exact ⟨i, hi, rfl⟩
  · rintro ⟨i, hi, rfl⟩
    exact ⟨_, (mem_m hm).2 ⟨i, hi, rfl⟩, rfl⟩
theorem nodup_m (hk : k ≤ 12) (hm : m.Perm (esN k close missing)) : (m.map Ent.uid).Nodup := by
  rw [(hm.map Ent.uid).nodup_iff]
  simp only [esN, List.map_map]
  rw [List.Nodup, List.pairwise_map]
  refine List.Pairwise.imp_of_mem ?_ (List.nodup_range (n := k))
  intro a b ha hb hne h
  simp only [List.mem_range] at ha hb
  exact hne (uN_inj (by omega) (by omega) h)
theorem noV (hm : m.Perm (esN k close missing)) : (tV, empty) ∉ m.map Ent.uid := fun h => by
  obtain ⟨i, _, hu⟩ := (mem_u hm).1 h
  have : tV = tU := congrArg Prod.fst hu
  exact absurd this (by decide)

/-- one above the other, by number -/
theorem above_step (hk : k ≤ 12) (hm : m.Perm (esN k close missing)) {i j : Nat} (hi : i < k) (hj : j < k) : Above m (uN i) (uN j) ↔ (j = i + 1 ∨ (close = true ∧ i + 1 = k ∧ j = 0)) := by
  constructor
  · rintro ⟨e, he, hu, hp, _⟩
    obtain ⟨i', hi', rfl⟩ := (mem_m hm).1 he
    have : i' = i := uN_inj (by omega) (by omega) hu
    subst this
    simp only [entN, psN, List.mem_append] at hp
    rcases hp with hp | hp
    · split at hp
      · rename_i h
        simp at hp
        exact .inl (uN_inj (by omega) (by omega) hp)
      · split at hp
        · rename_i h1 h2
          simp at hp
          have h0 : uN j = uN 0 := by rw [hp]; unfold uN; rw [cN_zero]
          exact .inr ⟨h2, by omega, uN_inj (by omega) (by omega) h0⟩
        · simp at hp
    · split at hp
      · simp at hp
        have : tU = tV := congrArg Prod.fst hp
        exact absurd this (by decide)
      · simp at hp
  · intro h
    refine ⟨entN k close missing i, (mem_m hm).2 ⟨i, hi, rfl⟩, rfl, ?_, (mem_u hm).2 ⟨j, hj, rfl⟩⟩
    simp only [entN, psN, List.mem_append]
    rcases h with rfl | ⟨h1, h2, rfl⟩
    · left; rw [if_pos hj]; simp
    · left
      rw [if_neg (by omega), h1]
      simp [uN, cN_zero]
theorem rounded_m (hk : k ≤ 12) (h0 : 0 < k) (hm : m.Perm (esN k close missing)) : Rounded m ↔ close = true := by
  constructor
  · rintro ⟨u, hu, ha⟩
    by_cases hc : close = true
    · exact hc
    · exfalso
      have key : ∀ i, i < k → Acc (Above m) (uN i) := by
        intro i
        induction i using Nat.strongRecOn with
        | ind i ih =>
          intro hi
          refine ⟨_, fun v hv => ?_⟩
          have hv0 := hv
          obtain ⟨e, he, rfl, _⟩ := hv
          obtain ⟨j, hj, rfl⟩ := (mem_m hm).1 he
          rcases (above_step hk hm hj hi).1 hv0 with h | h
          · exact ih j (by omega) hj
          · exact absurd h.1 hc
      obtain ⟨i, hi, rfl⟩ := (mem_u hm).1 hu
      exact ha (key i hi)
  · intro hc
    refine ⟨uN 0, (mem_u hm).2 ⟨0, h0, rfl⟩, not_acc_of (S := fun u => ∃ i, i < k ∧ u = uN i) ?_ ⟨0, h0, rfl⟩⟩
    rintro u ⟨i, hi, rfl⟩
    by_cases hi0 : i = 0
    · subst hi0
      exact ⟨uN (k - 1), ⟨k - 1, by omega, rfl⟩, (above_step hk hm (by omega) hi).2 (.inr ⟨hc, by omega, rfl⟩)⟩
    · exact ⟨uN (i - 1), ⟨i - 1, by omega, rfl⟩, (above_step hk hm (by omega) hi).2 (.inl (by omega))⟩

theorem oneE_m (hk : k ≤ 12) (hm : m.Perm (esN k close missing)) {i : Nat} (hi : i < k) : (oneE (m.map Ent.uid) (entN k close missing i)).2 = if missing && i == 0 then 20 else 0 := by
  have hpar : ∀ p ∈ psN k close false i, (idx (m.map Ent.uid) p).isSome = true := fun p hp => by
    have hmem : p ∈ m.map Ent.uid := by
      refine (mem_u hm).2 ?_
      simp only [psN, List.mem_append] at hp
      rcases hp with hp | hp
      · split at hp
        · simp at hp; exact ⟨i + 1, by assumption, hp⟩
        · split at hp
          · simp at hp; exact ⟨0, by omega, by rw [hp]; unfold uN; rw [cN_zero]⟩
          · simp at hp
      · simp at hp
    obtain ⟨j, hj⟩ := idx_mem.1 hmem
    rw [hj]; rfl
  have hcan : (entN k close missing i).av.canon.2 = 0 := by show recV.canon.2 = 0; rw [recV_canon]
  cases hb : missing && i == 0 with
  | true =>
    rw [oneE_bad_parent rfl hcan]
    · rfl
    · refine List.any_eq_true.2 ⟨(tV, empty), ?_, ?_⟩
      · simp only [entN, psN, hb]; simp
      · have := idx_none.2 (noV hm)
        rw [this]; rfl
  | false =>
    have hps : psN k close missing i = psN k close false i := by simp only [psN, hb]; simp
    rw [oneE_good rfl hcan]
    · rfl
    · rw [List.any_eq_false]
      intro p hp
      rw [show (entN k close missing i).ps = psN k close missing i from rfl, hps] at hp
      rw [hpar p hp]; decide
theorem onesE_all {us : List Uid} : ∀ {l : List Ent}, (∀ e ∈ l, (oneE us e).2 = 0) → (onesE us l).2 = 0
  | [], _ => rfl
  | e :: r, h => by simp [onesE, h e (by simp), onesE_all (l := r) fun x hx => h x (by simp [hx])]
theorem onesE_some {us : List Uid} {c : Int} (hc : c ≠ 0) : ∀ {l : List Ent}, (∀ e ∈ l, (oneE us e).2 = 0 ∨ (oneE us e).2 = c) → (∃ e ∈ l, (oneE us e).2 = c) → (onesE us l).2 = c
  | [], _, h => by obtain ⟨e, he, _⟩ := h; simp at he
  | e :: r, h, hex => by
    by_cases h0 : (oneE us e).2 = 0
    · have : ∃ e ∈ r, (oneE us e).2 = c := by
        obtain ⟨x, hx, hxc⟩ := hex
        rcases List.mem_cons.1 hx with rfl | hx
        · exact absurd (hxc.symm.trans h0) hc
        · exact ⟨x, hx, hxc⟩
      have ih := onesE_some hc (l := r) (fun x hx => h x (by simp [hx])) this
      simp [onesE, h0, ih, hc]
    · rcases h e (by simp) with h1 | h1
      · exact absurd h1 h0
      · simp [onesE, h1, hc]

theorem canonE_missing (hk : k ≤ 12) (h0 : 0 < k) (hm : m.Perm (esN k close true)) : canonE m = ([], 20) := by
  have hl : m.length = k := by rw [hm.length_eq, esN_length]
  have h1 : (onesE (m.map Ent.uid) m).2 = 20 := onesE_some (by decide) (fun e he => by
    obtain ⟨i, hi, rfl⟩ := (mem_m hm).1 he
    rw [oneE_m hk hm hi]
    split
    · exact .inr rfl
    · exact .inl rfl) ⟨entN k close true 0, (mem_m hm).2 ⟨0, h0, rfl⟩, by rw [oneE_m hk hm h0]; rfl⟩
  unfold canonE
  rw [if_neg (by omega), if_neg (fun h => h (nodup_m hk hm)), h1, if_pos (by decide)]
theorem ones_good (hk : k ≤ 12) (hm : m.Perm (esN k close false)) : (onesE (m.map Ent.uid) m).2 = 0 := onesE_all fun e he => by
  obtain ⟨i, hi, rfl⟩ := (mem_m hm).1 he
  rw [oneE_m hk hm hi]; rfl
theorem canonE_closed (hk : k ≤ 12) (h0 : 0 < k) (hm : m.Perm (esN k true false)) : canonE m = ([], 21) := by
  have hl : m.length = k := by rw [hm.length_eq, esN_length]
  unfold canonE
  rw [if_neg (by omega), if_neg (fun h => h (nodup_m hk hm)), ones_good hk hm, if_neg (by decide), if_pos ((rounded_m hk h0 hm).2 rfl)]
theorem canonE_open (hk : k ≤ 12) (h0 : 0 < k) (hm : m.Perm (esN k false false)) : (canonE m).2 = 0 ∧ (canonE m).1.length = k ∧ ∃ e r, (canonE m).1 = e :: r ∧ e.uid = uN 0 := by
  have hl : m.length = k := by rw [hm.length_eq, esN_length]
  have hg := ones_good hk hm
  have hnr : ¬ Rounded m := fun h => by have := (rounded_m hk h0 hm).1 h; cases this
  have he : canonE m = (sortU cmpE (onesE (m.map Ent.uid) m).1, 0) := by
    unfold canonE
    rw [if_neg (by omega), if_neg (fun h => h (nodup_m hk hm)), hg, if_neg (by decide), if_neg hnr]
  rw [he]
  have hu := onesE_uids hg
  have hlen := onesE_length hg
  generalize (onesE (m.map Ent.uid) m).1 = ys at *
  have hny : (ys.map Ent.uid).Nodup := by rw [hu]; exact nodup_m hk hm
  have huq : ∀ x y : Ent, x ∈ ys → y ∈ ys → cmpE x y = 0 → x = y := fun x y hx hy h => by
    have he := ordU_eq h
    obtain ⟨i, hi⟩ := List.mem_iff_getElem?.1 hx
    obtain ⟨j, hj⟩ := List.mem_iff_getElem?.1 hy
    have h1 := idx_of_get hny (i := i) (u := x.uid) (by simp [hi])
    have h2 := idx_of_get hny (i := j) (u := x.uid) (by simp [hj, he])
    rw [h1] at h2
    obtain rfl := Option.some.inj h2
    rw [hi] at hj
    exact Option.some.inj hj
  have hst : Strict cmpE (sortU cmpE ys) := sortU_strict GoodAt.cmpE ys
  have hmem : ∀ y, y ∈ sortU cmpE ys ↔ y ∈ ys := sortU_mem huq fun _ h => h
  have hl1 : (sortU cmpE ys).length = k := by
    have h1 : (sortU cmpE ys).Nodup := hst.imp fun {a b} h e => by subst e; rw [(GoodAt.cmpE a).refl] at h; cases h
    have h2 : ys.Nodup := by
      refine (List.pairwise_map.1 hny).imp fun {a b} h e => h (by rw [e])
    have h3 := length_le_of_subset h1 fun x hx => (hmem x).1 hx
    have h4 := length_le_of_subset h2 fun x hx => (hmem x).2 hx
    omega
  refine ⟨rfl, hl1, ?_⟩
  cases hs : sortU cmpE ys with
  | nil => rw [hs] at hl1; simp at hl1; omega
  | cons e r =>
    refine ⟨e, r, rfl, ?_⟩
    have h0m : uN 0 ∈ ys.map Ent.uid := by rw [hu]; exact (mem_u hm).2 ⟨0, h0, rfl⟩
    obtain ⟨z, hz, hzu⟩ := List.mem_map.1 h0m
    have hz' : z ∈ e :: r := by rw [← hs]; exact (hmem z).2 hz
    have hem : e ∈ ys := (hmem e).1 (by rw [hs]; simp)
    have heu : e.uid ∈ ys.map Ent.uid := List.mem_map.2 ⟨e, hem, rfl⟩
    rw [hu] at heu
    obtain ⟨j, hj, heu⟩ := (mem_u hm).1 heu
    rcases List.mem_cons.1 hz' with rfl | hz'
    · exact hzu
    · exfalso
      rw [hs] at hst
      have h1 := (List.pairwise_cons.1 hst).1 z hz'
      unfold cmpE ordU lex2 at h1
      rw [heu, hzu] at h1
      simp only [uN] at h1
      simp only [cmpS_refl, if_true] at h1
      exact cN_least j (by omega) h1
end
end Go.Proofs.Ytpkgkabcikmopaa
