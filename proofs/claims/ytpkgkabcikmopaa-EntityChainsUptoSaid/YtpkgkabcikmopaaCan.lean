/-
  Values as they must be, as plain mathematics: what canon comes to, that sets rise, that the order parts what is unlike. No program in sight. The conditions: none (definitions and lemmas).
-/
import Derived.Test.YtpkgkabcikmopaaGet
namespace Go.Proofs.Ytpkgkabcikmopaa
open Go.RowKit

section order
variable {α : Type} {c : α → α → Int}

def Strict (c : α → α → Int) (l : List α) : Prop := l.Pairwise fun a b => c a b = -1
def ins (c : α → α → Int) (x : α) : List α → List α
  | [] => [x]
  | y :: r => if c y x = -1 then y :: ins c x r else if c y x = 0 then y :: r else x :: y :: r
def sortU (c : α → α → Int) (l : List α) : List α := l.foldl (fun a x => ins c x a) []
def dedupFrom (c : α → α → Int) : α → List α → List α
  | _, [] => []
  | p, y :: r => if c y p = 0 then dedupFrom c y r else y :: dedupFrom c y r
def dedup (c : α → α → Int) : List α → List α
  | [] => []
  | x :: r => x :: dedupFrom c x r

theorem mem_ins {x y : α} : ∀ {l : List α}, y ∈ ins c x l → y = x ∨ y ∈ l
  | [], h => by simp [ins] at h; exact .inl h
  | z :: r, h => by
    simp only [ins] at h
    split at h
    · rcases List.mem_cons.1 h with h | h
      · exact .inr (by simp [h])
      · rcases mem_ins h with h | h
        · exact .inl h
        · exact .inr (by simp [h])
    · split at h
      · exact .inr h
      · rcases List.mem_cons.1 h with h | h
        · exact .inl h
        · exact .inr h
theorem mem_ins_old {x y : α} : ∀ {l : List α}, y ∈ l → y ∈ ins c x l
  | z :: r, h => by
    simp only [ins]
    split
    · rcases List.mem_cons.1 h with h | h
      · simp [h]
      · simp [mem_ins_old h]
    · split
      · exact h
      · exact List.mem_cons_of_mem _ h
theorem mem_ins_new {x : α} : ∀ {l : List α}, x ∈ ins c x l ∨ ∃ y ∈ l, c y x = 0
  | [] => by simp [ins]
  | z :: r => by
    simp only [ins]
    split
    · rcases mem_ins_new (x := x) (l := r) with h | ⟨y, hy, h0⟩
      · exact .inl (by simp [h])
      · exact .inr ⟨y, by simp [hy], h0⟩
    · split
      · rename_i h0; exact .inr ⟨z, by simp, h0⟩
      · exact .inl (by simp)

theorem flip1 (hg : ∀ x, GoodAt c x) {x y : α} (h1 : ¬ c y x = -1) (h0 : ¬ c y x = 0) : c x y = -1 := by
  have h2 := (hg y).range x
  have h3 := (hg y).turn x
  omega

theorem ins_strict (hg : ∀ x, GoodAt c x) {x : α} : ∀ {l : List α}, Strict c l → Strict c (ins c x l)
  | [], _ => by simp [ins, Strict]
  | z :: r, h => by
    obtain ⟨hz, hr⟩ := List.pairwise_cons.1 h
    simp only [ins]
    split
    · rename_i h1
      refine List.pairwise_cons.2 ⟨fun y hy => ?_, ins_strict hg hr⟩
      rcases mem_ins hy with rfl | hy
      · exact h1
      · exact hz y hy
    · split
      · exact h
      · rename_i h1 h0
        have hx := flip1 hg h1 h0
        refine List.pairwise_cons.2 ⟨fun y hy => ?_, h⟩
        rcases List.mem_cons.1 hy with rfl | hy
        · exact hx
        · exact (hg x).less z y hx (by have := hz y hy; omega)

theorem strict_head (hg : ∀ x, GoodAt c x) {x : α} {r : List α} (h : Strict c (x :: r)) : x ∉ r := fun hx => by
  have := (List.pairwise_cons.1 h).1 x hx
  rw [(hg x).refl] at this; omega

/-- a rising row is told by its members -/
theorem strict_unique (hg : ∀ x, GoodAt c x) : ∀ {l m : List α}, Strict c l → Strict c m → (∀ x, x ∈ l ↔ x ∈ m) → l = m
  | [], [], _, _, _ => rfl
  | [], y :: s, _, _, h => by have := (h y).2 (by simp); simp at this
  | x :: r, [], _, _, h => by have := (h x).1 (by simp); simp at this
  | x :: r, y :: s, hl, hm, h => by
    have hxy : x = y := by
      rcases List.mem_cons.1 ((h x).1 (by simp)) with e | hx
      · exact e
      · rcases List.mem_cons.1 ((h y).2 (by simp)) with e | hy
        · exact e.symm
        · have h1 := (List.pairwise_cons.1 hl).1 y hy
          have h2 := (List.pairwise_cons.1 hm).1 x hx
          have h3 := (hg x).turn y
          omega
    subst hxy
    rw [strict_unique hg (List.pairwise_cons.1 hl).2 (List.pairwise_cons.1 hm).2 fun z => ?_]
    have hz := h z
    simp only [List.mem_cons] at hz
    by_cases hzx : z = x
    · subst hzx
      exact ⟨fun h1 => absurd h1 (strict_head hg hl), fun h1 => absurd h1 (strict_head hg hm)⟩
    · simpa [hzx] using hz

theorem foldl_ins_strict (hg : ∀ x, GoodAt c x) : ∀ (l a : List α), Strict c a → Strict c (l.foldl (fun a x => ins c x a) a)
  | [], _, h => h
  | _ :: r, _, h => foldl_ins_strict hg r _ (ins_strict hg h)
theorem sortU_strict (hg : ∀ x, GoodAt c x) (l : List α) : Strict c (sortU c l) := foldl_ins_strict hg l [] List.Pairwise.nil

theorem foldl_ins_mem {P : α → Prop} (he : ∀ x y, P x → P y → c x y = 0 → x = y) : ∀ (l a : List α), (∀ x ∈ l, P x) → (∀ x ∈ a, P x) → ∀ y, y ∈ l.foldl (fun a x => ins c x a) a ↔ y ∈ l ∨ y ∈ a
  | [], a, _, _, y => by simp
  | x :: r, a, hl, ha, y => by
    rw [List.foldl_cons, foldl_ins_mem he r _ (fun z hz => hl z (by simp [hz])) (fun z hz => by
      rcases mem_ins hz with rfl | hz
      · exact hl _ (by simp)
      · exact ha z hz)]
    simp only [List.mem_cons]
    constructor
    · rintro (h | h)
      · exact .inl (.inr h)
      · rcases mem_ins h with h | h
        · exact .inl (.inl h)
        · exact .inr h
    · rintro ((h | h) | h)
      · subst h
        rcases mem_ins_new (c := c) (x := y) (l := a) with h | ⟨z, hz, h0⟩
        · exact .inr h
        · have := he z y (ha z hz) (hl y (by simp)) h0
          subst this; exact .inr (mem_ins_old hz)
      · exact .inl h
      · exact .inr (mem_ins_old h)
theorem sortU_mem {P : α → Prop} (he : ∀ x y, P x → P y → c x y = 0 → x = y) {l : List α} (hl : ∀ x ∈ l, P x) (y : α) : y ∈ sortU c l ↔ y ∈ l := by
  rw [sortU, foldl_ins_mem he l [] hl (by simp)]; simp
theorem sortU_mem_of {l : List α} {y : α} (h : y ∈ sortU c l) : y ∈ l := by
  have : ∀ (l a : List α), y ∈ l.foldl (fun a x => ins c x a) a → y ∈ l ∨ y ∈ a := by
    intro l
    induction l with
    | nil => intro a h; exact .inr h
    | cons x r ih =>
      intro a h
      rcases ih _ h with h | h
      · exact .inl (by simp [h])
      · rcases mem_ins h with h | h
        · exact .inl (by simp [h])
        · exact .inr h
  rcases this l [] h with h | h
  · exact h
  · cases h

theorem dedupFrom_mem_of {y : α} : ∀ {l : List α} {p : α}, y ∈ dedupFrom c p l → y ∈ l
  | [], _, h => by simp [dedupFrom] at h
  | z :: r, p, h => by
    simp only [dedupFrom] at h
    split at h
    · exact List.mem_cons_of_mem _ (dedupFrom_mem_of h)
    · rcases List.mem_cons.1 h with h | h
      · simp [h]
      · exact List.mem_cons_of_mem _ (dedupFrom_mem_of h)
theorem dedup_mem_of {y : α} : ∀ {l : List α}, y ∈ dedup c l → y ∈ l
  | [], h => h
  | x :: r, h => by
    rcases List.mem_cons.1 h with h | h
    · simp [h]
    · exact List.mem_cons_of_mem _ (dedupFrom_mem_of h)
theorem dedupFrom_mem {P : α → Prop} (he : ∀ x y, P x → P y → c x y = 0 → x = y) {y : α} : ∀ {l : List α} {p : α}, (∀ x ∈ l, P x) → P p → y ∈ l → y = p ∨ y ∈ dedupFrom c p l
  | z :: r, p, hl, hp, h => by
    have hz := hl z (by simp)
    simp only [dedupFrom]
    split
    · rename_i h0
      have e := he z p hz hp h0
      subst e
      rcases List.mem_cons.1 h with h | h
      · exact .inl h
      · exact dedupFrom_mem he (fun x hx => hl x (by simp [hx])) hz h
    · rcases List.mem_cons.1 h with h | h
      · exact .inr (by simp [h])
      · rcases dedupFrom_mem he (fun x hx => hl x (by simp [hx])) hz h with h | h
        · exact .inr (by simp [h])
        · exact .inr (by simp [h])
theorem dedup_mem {P : α → Prop} (he : ∀ x y, P x → P y → c x y = 0 → x = y) {l : List α} (hl : ∀ x ∈ l, P x) (y : α) : y ∈ dedup c l ↔ y ∈ l := by
  refine ⟨dedup_mem_of, fun h => ?_⟩
  cases l with
  | nil => exact h
  | cons x r =>
    rcases List.mem_cons.1 h with h | h
    · simp [dedup, h]
    · rcases dedupFrom_mem he (fun z hz => hl z (by simp [hz])) (hl x (by simp)) h with h | h
      · simp [dedup, h]
      · simp [dedup, h]
theorem dedupFrom_strict (hg : ∀ x, GoodAt c x) : ∀ {l : List α} {p : α}, (∀ y ∈ l, c p y ≤ 0) → l.Pairwise (fun a b => c a b ≤ 0) → Strict c (dedupFrom c p l) ∧ ∀ y ∈ dedupFrom c p l, c p y = -1
  | [], _, _, _ => by simp [dedupFrom, Strict]
  | z :: r, p, hp, hs => by
    obtain ⟨hz, hr⟩ := List.pairwise_cons.1 hs
    obtain ⟨i1, i2⟩ := dedupFrom_strict hg hz hr
    have hpz := hp z (by simp)
    simp only [dedupFrom]
    split
    · rename_i h0
      refine ⟨i1, fun y hy => ?_⟩
      have := i2 y hy
      rw [← (hg z).cong p y h0] at this
      exact this
    · rename_i h0
      have h1 : c p z = -1 := by
        have h2 := (hg p).range z
        have h3 := (hg p).turn z
        omega
      refine ⟨List.pairwise_cons.2 ⟨i2, i1⟩, fun y hy => ?_⟩
      rcases List.mem_cons.1 hy with rfl | hy
      · exact h1
      · exact (hg p).less z y h1 (by have := i2 y hy; omega)
theorem dedup_strict (hg : ∀ x, GoodAt c x) {l : List α} (hs : l.Pairwise (fun a b => c a b ≤ 0)) : Strict c (dedup c l) := by
  cases l with
  | nil => exact List.Pairwise.nil
  | cons x r =>
    obtain ⟨hx, hr⟩ := List.pairwise_cons.1 hs
    obtain ⟨i1, i2⟩ := dedupFrom_strict hg hx hr
    exact List.pairwise_cons.2 ⟨i2, i1⟩

/-- sorted in whatever way, and each once: the same rising row -/
theorem dedup_sorted (hg : ∀ x, GoodAt c x) {P : α → Prop} (he : ∀ x y, P x → P y → c x y = 0 → x = y) {l l' : List α} (hl : ∀ x ∈ l, P x) (hp : l'.Perm l) (hs : l'.Pairwise (fun a b => c a b ≤ 0)) : dedup c l' = sortU c l :=
  strict_unique hg (dedup_strict hg hs) (sortU_strict hg l) fun x => by
    rw [dedup_mem he (fun x hx => hl x (hp.mem_iff.1 hx)), sortU_mem he hl, hp.mem_iff]

/-- a rising row's own rise is itself -/
theorem sortU_of_strict (hg : ∀ x, GoodAt c x) {P : α → Prop} (he : ∀ x y, P x → P y → c x y = 0 → x = y) {l : List α} (hl : ∀ x ∈ l, P x) (hs : Strict c l) : sortU c l = l :=
  strict_unique hg (sortU_strict hg l) hs fun x => sortU_mem he hl x

/-- the place that is looked for from behind -/
theorem ins_at (hg : ∀ x, GoodAt c x) {x : α} : ∀ {l : List α} {p : Nat}, Strict c l → p ≤ l.length → (∀ i y, i < p → l[i]? = some y → c y x = -1) → (∀ i y, p ≤ i → l[i]? = some y → ¬ c y x = -1) →
    ((∃ i y, p ≤ i ∧ l[i]? = some y ∧ c y x = 0) ∧ ins c x l = l) ∨ (¬ (∃ i y, p ≤ i ∧ l[i]? = some y ∧ c y x = 0) ∧ ins c x l = l.take p ++ x :: l.drop p)
  | [], p, _, hp, _, _ => by
    have : p = 0 := by simpa using hp
    subst this; exact .inr ⟨by simp, by simp [ins]⟩
  | z :: r, 0, hs, _, _, h2 => by
    have hz := h2 0 z (by omega) rfl
    simp only [ins, hz, if_false]
    by_cases h0 : c z x = 0
    · rw [if_pos h0]; exact .inl ⟨⟨0, z, by omega, rfl, h0⟩, rfl⟩
    · rw [if_neg h0]
      refine .inr ⟨?_, rfl⟩
      rintro ⟨i, y, _, hy, hy0⟩
      have hx := flip1 hg hz h0
      cases i with
      | zero => simp at hy; subst hy; exact h0 hy0
      | succ i =>
        have hm : y ∈ r := List.mem_of_getElem? (i := i) (by simpa using hy)
        have h3 := (List.pairwise_cons.1 hs).1 y hm
        have h4 := (hg x).less z y hx (by omega)
        have h5 := (hg x).turn y
        omega
  | z :: r, p + 1, hs, hp, h1, h2 => by
    have hz := h1 0 z (by omega) rfl
    simp only [ins, hz, if_true]
    rcases ins_at hg (l := r) (p := p) (List.pairwise_cons.1 hs).2 (by simpa using hp) (fun i y hi hy => h1 (i + 1) y (by omega) (by simpa using hy)) (fun i y hi hy => h2 (i + 1) y (by omega) (by simpa using hy)) with ⟨⟨i, y, hi, hy, h0⟩, he⟩ | ⟨hn, he⟩
    · exact .inl ⟨⟨i + 1, y, by omega, by simpa using hy, h0⟩, by rw [he]⟩
    · refine .inr ⟨?_, by rw [he]; simp⟩
      rintro ⟨i, y, hi, hy, h0⟩
      cases i with
      | zero => omega
      | succ i => exact hn ⟨i, y, by omega, by simpa using hy, h0⟩
end order

/-! ### values as they must be -/

def empty : ByteArray := ByteArray.empty
def cmpN (p q : ByteArray × Val) : Int := cmpS p.1 q.1
theorem GoodAt.cmpN (p : ByteArray × Val) : GoodAt cmpN p := GoodAt.part (c := Go.Proofs.Ytpkgkabcikmopaa.cmpS) (fun p : ByteArray × Val => p.1) (GoodAt.cmpS p.1)

/-- a record of names and items that are as they must be -/
def record (names : List ByteArray) (l : List Val) : Val × Int :=
  if names.Nodup then (.mk 6 false 0 empty empty empty ((sortU cmpN (names.zip l)).map (·.2)) ((sortU cmpN (names.zip l)).map (·.1)), 0) else (.zero, 13)

mutual
/-- a value as it must be, or an error -/
def Val.can : Val → Val × Int
  | .mk k bo n t ut ui items names =>
    if k = 1 then (.mk 1 bo 0 empty empty empty [] [], 0) else
    if k = 2 then (.mk 2 false n empty empty empty [] [], 0) else
    if k = 3 then (.mk 3 false 0 t empty empty [] [], 0) else
    if k = 4 then (.mk 4 false 0 empty ut ui [] [], 0) else
    if k = 5 then
      if (Val.cans items).2 ≠ 0 then (.zero, (Val.cans items).2) else
      if 4096 < items.length then (.zero, 12) else
      (.mk 5 false 0 empty empty empty (sortU Val.ord (Val.cans items).1) [], 0) else
    if k = 6 then
      if names.length ≠ items.length then (.zero, 1) else
      if (Val.cans items).2 ≠ 0 then (.zero, (Val.cans items).2) else
      if 4096 < items.length then (.zero, 12) else record names (Val.cans items).1
    else (.zero, 1)
def Val.cans : List Val → List Val × Int
  | [] => ([], 0)
  | x :: r => if x.can.2 ≠ 0 then ([], x.can.2) else if (Val.cans r).2 ≠ 0 then ([], (Val.cans r).2) else (x.can.1 :: (Val.cans r).1, 0)
end

/-- a value as it must be, or refused -/
def Val.canon (v : Val) : Val × Int := if 50 < v.dep then (.zero, 11) else v.can

mutual
/-- is as it must be -/
def Val.Is : Val → Prop
  | .mk k bo n t ut ui items names =>
    (k = 1 ∧ n = 0 ∧ t = empty ∧ ut = empty ∧ ui = empty ∧ items = [] ∧ names = []) ∨
    (k = 2 ∧ bo = false ∧ t = empty ∧ ut = empty ∧ ui = empty ∧ items = [] ∧ names = []) ∨
    (k = 3 ∧ bo = false ∧ n = 0 ∧ ut = empty ∧ ui = empty ∧ items = [] ∧ names = []) ∨
    (k = 4 ∧ bo = false ∧ n = 0 ∧ t = empty ∧ items = [] ∧ names = []) ∨
    (k = 5 ∧ bo = false ∧ n = 0 ∧ t = empty ∧ ut = empty ∧ ui = empty ∧ names = [] ∧ Strict Val.ord items ∧ items.length ≤ 4096 ∧ Val.Are items) ∨
    (k = 6 ∧ bo = false ∧ n = 0 ∧ t = empty ∧ ut = empty ∧ ui = empty ∧ names.length = items.length ∧ Strict cmpS names ∧ items.length ≤ 4096 ∧ Val.Are items)
def Val.Are : List Val → Prop
  | [] => True
  | x :: r => x.Is ∧ Val.Are r
end
theorem Val.are_iff : ∀ l : List Val, Val.Are l ↔ ∀ x ∈ l, x.Is
  | [] => by simp [Val.Are]
  | x :: r => by simp [Val.Are, Val.are_iff r]

theorem Val.ord_mk (k : Int) (bo : Bool) (i : Int) (t ut ui : ByteArray) (items : List Val) (names : List ByteArray) (k' : Int) (bo' : Bool) (i' : Int) (t' ut' ui' : ByteArray) (items' : List Val) (names' : List ByteArray) :
    (Val.mk k bo i t ut ui items names).ord (.mk k' bo' i' t' ut' ui' items' names') = if k ≠ k' then cmpI k k' else
    if k = 1 then cmpI (bit bo) (bit bo') else
    if k = 2 then cmpI i i' else
    if k = 3 then cmpS t t' else
    if k = 4 then lex2 (cmpS ut ut') (cmpS ui ui') else
    if k = 5 then lexL Val.ord items items' else
    if k = 6 then lex2 (lexL cmpS names names') (lexL Val.ord (items.take names.length) (items'.take names'.length)) else 0 := Val.ord_def _ _

/-- what is as it must be is parted by the order -/
theorem Val.eq_of_ord : ∀ (n : Nat) (a b : Val), SizeOf.sizeOf a ≤ n → a.Is → b.Is → a.ord b = 0 → a = b
  | 0, a, _, h, _, _, _ => by cases a; simp at h
  | n + 1, .mk k bo i t ut ui items names, .mk k' bo' i' t' ut' ui' items' names', h, ha, hb, h0 => by
    rw [Val.ord_mk] at h0
    have hk : k = k' := by
      by_cases hk : k = k'
      · exact hk
      · rw [if_pos hk] at h0; unfold cmpI at h0; repeat' split at h0 <;> omega
    subst hk
    rw [if_neg (by simp)] at h0
    have hi : ∀ (l l' : List Val), (∀ x ∈ l, x ∈ items) → Val.Are items → Val.Are items' → (∀ x ∈ l', x ∈ items') → lexL Val.ord l l' = 0 → l = l' := fun l l' h1 h2 h3 h4 h5 =>
      lexL_eq (fun x hx y hy hxy => Val.eq_of_ord n x y (by have := List.sizeOf_lt_of_mem (h1 x hx); simp at h; omega) ((Val.are_iff _).1 h2 x (h1 x hx)) ((Val.are_iff _).1 h3 y (h4 y hy)) hxy) h5
    simp only [Val.Is] at ha hb
    rcases ha with ⟨rfl, ha⟩ | ⟨rfl, ha⟩ | ⟨rfl, ha⟩ | ⟨rfl, ha⟩ | ⟨rfl, ha⟩ | ⟨rfl, ha⟩
    · obtain ⟨rfl, rfl, rfl, rfl, rfl, rfl⟩ := ha
      simp at hb
      obtain ⟨rfl, rfl, rfl, rfl, rfl, rfl⟩ := hb
      simp [cmpI, bit] at h0
      cases bo <;> cases bo' <;> simp_all
    · obtain ⟨rfl, rfl, rfl, rfl, rfl, rfl⟩ := ha
      simp at hb
      obtain ⟨rfl, rfl, rfl, rfl, rfl, rfl⟩ := hb
      simp [cmpI] at h0
      have : i = i' := by repeat' split at h0 <;> omega
      rw [this]
    · obtain ⟨rfl, rfl, rfl, rfl, rfl, rfl⟩ := ha
      simp at hb
      obtain ⟨rfl, rfl, rfl, rfl, rfl, rfl⟩ := hb
      simp at h0
      rw [cmpS_eq h0]
    · obtain ⟨rfl, rfl, rfl, rfl, rfl⟩ := ha
      simp at hb
      obtain ⟨rfl, rfl, rfl, rfl, rfl⟩ := hb
      simp [lex2] at h0
      have h1 : cmpS ut ut' = 0 := by
        split at h0
        · assumption
        · exact h0
      rw [if_pos h1] at h0
      rw [cmpS_eq h1, cmpS_eq h0]
    · obtain ⟨rfl, rfl, rfl, rfl, rfl, rfl, _, _, h2⟩ := ha
      simp at hb
      obtain ⟨rfl, rfl, rfl, rfl, rfl, rfl, _, _, h3⟩ := hb
      simp at h0
      rw [hi items items' (fun _ h => h) h2 h3 (fun _ h => h) h0]
    · obtain ⟨rfl, rfl, rfl, rfl, rfl, hl, _, _, h2⟩ := ha
      simp at hb
      obtain ⟨rfl, rfl, rfl, rfl, rfl, hl', _, _, h3⟩ := hb
      simp [lex2] at h0
      have h1 : lexL cmpS names names' = 0 := by
        split at h0
        · assumption
        · exact h0
      rw [if_pos h1, hl, hl', List.take_length, List.take_length] at h0
      rw [lexL_eq (fun x _ y _ hxy => cmpS_eq hxy) h1, hi items items' (fun _ h => h) h2 h3 (fun _ h => h) h0]

theorem Val.eq_ord {a b : Val} (ha : a.Is) (hb : b.Is) (h : a.ord b = 0) : a = b := Val.eq_of_ord _ a b (Nat.le_refl _) ha hb h

end Go.Proofs.Ytpkgkabcikmopaa
