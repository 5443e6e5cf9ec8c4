/-
  Ways from number to number: what a table that is filled up holds, and that nothing is above itself just if there is no way round. No program in sight. The conditions: none (definitions and lemmas).
-/
import Derived.Test.YtjllolagcdjlnaaGreatGf
namespace Go.Proofs.YtjllolagcdjlnaaGreat

section
variable (E : Nat → Nat → Prop)
/-- a way over numbers below k alone -/
def Via : Nat → Nat → Nat → Prop
  | 0, a, b => E a b
  | k + 1, a, b => Via k a b ∨ (Via k a k ∧ Via k k b)
variable {E}
theorem Via.step {k a b : Nat} (h : Via E k a b) : Via E (k + 1) a b := .inl h
theorem Via.le {k m a b : Nat} (h : Via E k a b) (hk : k ≤ m) : Via E m a b := by
  induction hk with
  | refl => exact h
  | step _ ih => exact ih.step
theorem Via.edge {m a b : Nat} (h : E a b) : Via E m a b := Via.le (k := 0) h (Nat.zero_le _)
theorem Via.trans : ∀ {k a b c : Nat}, c < k → Via E k a c → Via E k c b → Via E k a b
  | 0, _, _, _, h, _, _ => by omega
  | k + 1, a, b, c, hc, h1, h2 => by
    by_cases he : c = k
    · subst he
      have p1 : Via E c a c := h1.elim id And.left
      have p2 : Via E c c b := h2.elim id And.right
      exact .inr ⟨p1, p2⟩
    · have hlt : c < k := by omega
      rcases h1 with h1 | h1 <;> rcases h2 with h2 | h2
      · exact .inl (Via.trans hlt h1 h2)
      · exact .inr ⟨Via.trans hlt h1 h2.1, h2.2⟩
      · exact .inr ⟨h1.1, Via.trans hlt h1.2 h2⟩
      · exact .inr ⟨h1.1, h2.2⟩
theorem Via.last : ∀ {k a b : Nat}, Via E k a b → ∃ c, E c b ∧ (c = a ∨ Via E k a c)
  | 0, a, _, h => ⟨a, h, .inl rfl⟩
  | k + 1, a, b, h => by
    rcases h with h | ⟨h1, h2⟩
    · obtain ⟨c, h3, h4⟩ := Via.last h
      exact ⟨c, h3, h4.imp id Via.step⟩
    · obtain ⟨c, h3, h4⟩ := Via.last h2
      refine ⟨c, h3, .inr ?_⟩
      rcases h4 with rfl | h4
      · exact .inl h1
      · exact .inr ⟨h1, h4⟩
theorem Via.lt {n : Nat} (hE : ∀ a b, E a b → a < n ∧ b < n) : ∀ {k a b : Nat}, Via E k a b → a < n ∧ b < n
  | 0, _, _, h => hE _ _ h
  | k + 1, a, b, h => by
    rcases h with h | ⟨h1, h2⟩
    · exact Via.lt hE h
    · exact ⟨(Via.lt hE h1).1, (Via.lt hE h2).2⟩
/-- no way round: everything has an end -/
theorem acc_of_open {n : Nat} (hE : ∀ a b, E a b → a < n ∧ b < n) (ho : ∀ i, i < n → ¬ Via E n i i) : ∀ i, i < n → Acc E i := by
  classical
  let L : Nat → List Nat := fun i => (List.range n).filter fun x => decide (Via E n x i)
  have hL : ∀ i x, x ∈ L i ↔ Via E n x i := fun i x => by
    simp only [L, List.mem_filter, List.mem_range, decide_eq_true_eq]
    exact ⟨fun h => h.2, fun h => ⟨(Via.lt hE h).1, h⟩⟩
  have hnd : ∀ i, (L i).Nodup := fun i => List.Nodup.sublist List.filter_sublist List.nodup_range
  have key : ∀ m i, (L i).length ≤ m → Acc E i := by
    intro m
    induction m with
    | zero =>
      intro i hm
      refine ⟨_, fun j hj => ?_⟩
      have : j ∈ L i := (hL i j).2 (Via.edge hj)
      have := List.length_pos_of_mem this
      omega
    | succ m ih =>
      intro i hm
      refine ⟨_, fun j hj => ih j ?_⟩
      have hjn := (hE j i hj).1
      have h1 : (j :: L j).Nodup := List.nodup_cons.2 ⟨fun h => ho j hjn ((hL j j).1 h), hnd j⟩
      have h2 := length_le_of_subset (m := L i) h1 fun x hx => by
        rcases List.mem_cons.1 hx with rfl | hx
        · exact (hL i x).2 (Via.edge hj)
        · exact (hL i x).2 (Via.trans hjn ((hL j x).1 hx) (Via.edge hj))
      simp at h2; omega
  exact fun i _ => key _ i (Nat.le_refl _)
theorem not_acc_of_round {n i : Nat} (hE : ∀ a b, E a b → a < n ∧ b < n) (h : Via E n i i) : ¬ Acc E i := by
  refine not_acc_of (S := fun k => Via E n i k ∧ Via E n k i) (fun k hk => ?_) ⟨h, h⟩
  obtain ⟨c, h1, h2⟩ := hk.1.last
  have hkn := (Via.lt hE hk.1).2
  refine ⟨c, ⟨?_, Via.trans hkn (Via.edge h1) hk.2⟩, h1⟩
  rcases h2 with rfl | h2
  · exact h
  · exact h2
end

/-- from one to its parent, by number -/
def EdgeN (l : List Ent) (i k : Nat) : Prop := k ∈ parN l i
theorem EdgeN.lt {l : List Ent} : ∀ a b, EdgeN l a b → a < l.length ∧ b < l.length := fun a b h => by
  refine ⟨?_, parN_lt h⟩
  unfold EdgeN parN at h
  split at h
  · rename_i e he; exact (List.getElem?_eq_some_iff.1 he).1
  · simp at h
theorem edge_acc {l : List Ent} {i : Nat} : Acc (EdgeN l) i ↔ Acc (fun i j => i < l.length ∧ j ∈ parN l i) i := by
  constructor <;> exact Acc.mono fun a b h => by first | exact ⟨(EdgeN.lt a b h).1, h⟩ | exact h.2
/-- above themselves -/
theorem rounded_via {l : List Ent} (hn : (l.map Ent.uid).Nodup) : Rounded l ↔ ∃ i, i < l.length ∧ Via (EdgeN l) l.length i i := by
  constructor
  · rintro ⟨u, hu, ha⟩
    obtain ⟨f, hf, rfl⟩ := List.mem_map.1 hu
    obtain ⟨k, hk⟩ := List.mem_iff_getElem?.1 hf
    refine Classical.byContradiction fun hno => ha ?_
    have := acc_of_open (E := EdgeN l) (n := l.length) EdgeN.lt (fun i hi h => hno ⟨i, hi, h⟩) k (List.getElem?_eq_some_iff.1 hk).1
    exact (acc_iff hn hk).1 (edge_acc.1 this)
  · rintro ⟨i, hi, h⟩
    have hk : l[i]? = some l[i] := List.getElem?_eq_getElem hi
    exact ⟨l[i].uid, List.mem_map.2 ⟨_, List.getElem_mem hi, rfl⟩, fun ha => not_acc_of_round EdgeN.lt h (edge_acc.2 ((acc_iff hn hk).2 ha))⟩

/-! ### a table that is filled up -/
section
variable {E : Nat → Nat → Prop} {n : Nat}
def Snd (E : Nat → Nat → Prop) (n : Nat) (t : Nat → Nat → Bool) : Prop := ∀ a b, a < n → b < n → t a b = true → Via E n a b
def Cpl (E : Nat → Nat → Prop) (n k : Nat) (t : Nat → Nat → Bool) : Prop := ∀ a b, a < n → b < n → Via E k a b → t a b = true
def setT (t : Nat → Nat → Bool) (i j : Nat) : Nat → Nat → Bool := fun a b => if a = i ∧ b = j then true else t a b
theorem setT_mono {t : Nat → Nat → Bool} {i j a b : Nat} (h : t a b = true) : setT t i j a b = true := by unfold setT; split <;> simp [h]
theorem setT_same {t : Nat → Nat → Bool} {i j : Nat} : setT t i j i j = true := by simp [setT]
theorem Snd.set {t : Nat → Nat → Bool} {i j : Nat} (h : Snd E n t) (hv : Via E n i j) : Snd E n (setT t i j) := fun a b ha hb hab => by
  unfold setT at hab
  split at hab
  · rename_i he; obtain ⟨rfl, rfl⟩ := he; exact hv
  · exact h a b ha hb hab
theorem Cpl.set {t : Nat → Nat → Bool} {k i j : Nat} (h : Cpl E n k t) : Cpl E n k (setT t i j) := fun a b ha hb hab => setT_mono (h a b ha hb hab)
/-- edges so far -/
def Edg (E : Nat → Nat → Prop) (i : Nat) (t : Nat → Nat → Bool) : Prop := ∀ a b, a < i → E a b → t a b = true
theorem Edg.set {t : Nat → Nat → Bool} {m i j : Nat} (h : Edg E m t) : Edg E m (setT t i j) := fun a b ha hab => setT_mono (h a b ha hab)
theorem Edg.cpl {t : Nat → Nat → Bool} (h : Edg E n t) : Cpl E n 0 t := fun a b ha _ hab => h a b ha hab
/-- one round: rows before i are done, and in row i what stands before j -/
def Row (E : Nat → Nat → Prop) (n k i j : Nat) (t : Nat → Nat → Bool) : Prop := ∀ a b, a < n → b < n → (a < i ∨ (a = i ∧ b < j)) → Via E k a k → Via E k k b → t a b = true
theorem Row.set {t : Nat → Nat → Bool} {k i j p q : Nat} (h : Row E n k i j t) : Row E n k i j (setT t p q) := fun a b ha hb hab h1 h2 => setT_mono (h a b ha hb hab h1 h2)
theorem Row.zero {t : Nat → Nat → Bool} {k : Nat} : Row E n k 0 0 t := fun a b _ _ h => by omega
theorem Row.next {t : Nat → Nat → Bool} {k i : Nat} (h : Row E n k i n t) : Row E n k (i + 1) 0 t := fun a b ha hb hab h1 h2 => h a b ha hb (by omega) h1 h2
theorem Row.last {t : Nat → Nat → Bool} {k : Nat} (h : Row E n k n 0 t) (hc : Cpl E n k t) : Cpl E n (k + 1) t := fun a b ha hb hab => by
  rcases hab with hab | hab
  · exact hc a b ha hb hab
  · exact h a b ha hb (.inl ha) hab.1 hab.2
theorem Row.yes {t : Nat → Nat → Bool} {k i j : Nat} (h : Row E n k i j t) : Row E n k i (j + 1) (setT t i j) := fun a b ha hb hab h1 h2 => by
  unfold setT
  split
  · rfl
  · exact h a b ha hb (by omega) h1 h2
theorem Row.no {t : Nat → Nat → Bool} {k i j : Nat} (h : Row E n k i j t) (hc : Cpl E n k t) (hk : k < n) (hi : i < n) (hj : j < n) (hno : ¬ (t i k = true ∧ t k j = true)) : Row E n k i (j + 1) t := fun a b ha hb hab h1 h2 => by
  by_cases he : a = i ∧ b = j
  · obtain ⟨rfl, rfl⟩ := he
    exact absurd ⟨hc a k hi hk h1, hc k b hk hj h2⟩ hno
  · exact h a b ha hb (by omega) h1 h2
theorem full_iff {t : Nat → Nat → Bool} (hs : Snd E n t) (hc : Cpl E n n t) {a b : Nat} (ha : a < n) (hb : b < n) : t a b = true ↔ Via E n a b := ⟨hs a b ha hb, hc a b ha hb⟩
end

/-! ### a rising row with one more -/
def putU (u : Uid) : Bool → List Uid → List Uid
  | put, [] => if put then [] else [u]
  | put, x :: r => (if put = false ∧ 0 ≤ ordU x u then [u] else []) ++ (if x = u then [] else [x]) ++ putU u (put || decide (0 ≤ ordU x u)) r
theorem ordU_self (u : Uid) : ordU u u = 0 := (GoodAt.ordU u).refl
theorem putU_done {u : Uid} : ∀ {l : List Uid}, (∀ x ∈ l, x ≠ u) → putU u true l = l
  | [], _ => rfl
  | x :: r, h => by simp [putU, h x (by simp), putU_done (l := r) fun y hy => h y (by simp [hy])]
theorem putU_ins {u : Uid} : ∀ {l : List Uid}, Strict ordU l → putU u false l = ins ordU u l
  | [], _ => rfl
  | x :: r, h => by
    obtain ⟨h1, h2⟩ := List.pairwise_cons.1 h
    have hr := (GoodAt.ordU x).range u
    unfold putU ins
    by_cases hm : ordU x u = -1
    · have hne : x ≠ u := fun e => by subst e; rw [ordU_self] at hm; omega
      rw [if_neg (by omega), if_neg hne, if_pos hm, decide_eq_false (by omega)]
      simp [putU_ins h2]
    · have hge : 0 ≤ ordU x u := by omega
      rw [if_pos ⟨rfl, hge⟩, if_neg hm, decide_eq_true hge]
      by_cases h0 : ordU x u = 0
      · have := ordU_eq h0
        subst this
        rw [if_pos rfl, if_pos h0]
        have : putU x true r = r := putU_done fun y hy e => by
          have := h1 y hy
          rw [e, ordU_self] at this; omega
        simp [this]
      · have hne : x ≠ u := fun e => h0 (by rw [e]; exact ordU_self _)
        rw [if_neg hne, if_neg h0]
        have : putU u true r = r := putU_done fun y hy e => by
          subst e
          have := h1 y hy
          omega
        simp [this]
theorem sortU_snoc {α : Type} {c : α → α → Int} {l : List α} {x : α} : sortU c (l ++ [x]) = ins c x (sortU c l) := by simp [sortU]
/-- one entity more, where it belongs -/
theorem ins_here {l : List Ent} {x : Ent} {p : Nat} (hs : Strict cmpE l) (hp : p ≤ l.length) (h1 : ∀ i y, i < p → l[i]? = some y → cmpE y x = -1) (h2 : ∀ y, l[p]? = some y → ¬ cmpE y x = -1) (hx : x.uid ∉ l.map Ent.uid) : ins cmpE x l = l.take p ++ x :: l.drop p := by
  have h3 : ∀ i y, p ≤ i → l[i]? = some y → ¬ cmpE y x = -1 := fun i y hi hy h => by
    by_cases he : i = p
    · subst he; exact h2 y hy h
    · obtain ⟨z, hz⟩ : ∃ z, l[p]? = some z := ⟨_, List.getElem?_eq_getElem (by have := (List.getElem?_eq_some_iff.1 hy).1; omega)⟩
      have hzy : cmpE z y = -1 := by
        have ha := (List.getElem?_eq_some_iff.1 hz)
        have hb := (List.getElem?_eq_some_iff.1 hy)
        have := List.pairwise_iff_getElem.1 hs p i ha.1 hb.1 (by omega)
        rwa [ha.2, hb.2] at this
      exact h2 z hz ((GoodAt.cmpE z).less y x hzy (by omega))
  rcases ins_at GoodAt.cmpE hs hp h1 h3 with h | h
  · obtain ⟨⟨i, y, _, hy, h0⟩, _⟩ := h
    exact absurd (List.mem_map.2 ⟨y, List.mem_of_getElem? hy, ordU_eq h0⟩) hx
  · exact h.2
theorem sortE_uids {l : List Ent} {u : Uid} (h : u ∈ (sortU cmpE l).map Ent.uid) : u ∈ l.map Ent.uid := by
  obtain ⟨e, he, rfl⟩ := List.mem_map.1 h
  exact List.mem_map.2 ⟨e, sortU_mem_of he, rfl⟩
theorem nodup_idx {us : List Uid} (h : ∀ i u, us[i]? = some u → idx us u = some i) : us.Nodup := by
  rw [List.Nodup, List.pairwise_iff_getElem]
  intro i j hi hj hij he
  have h1 := h i us[i] (List.getElem?_eq_getElem hi)
  have h2 := h j us[j] (List.getElem?_eq_getElem hj)
  rw [he, h2] at h1
  have := Option.some.inj h1
  omega
end Go.Proofs.YtjllolagcdjlnaaGreat
