/-
  Is a value of a type; is each value of one type of another one; a value of a type is of each one above it. No program in sight. The conditions: none (definitions and lemmas).
-/
import Derived.Test.YtjllolagcdjlnaaGreatTyM
namespace Go.Proofs.YtjllolagcdjlnaaGreat
open Go.RowKit

mutual
/-- is a value of a type -/
def Ty.takes : Ty → Val → Bool
  | .mk k name elem attrs, .mk vk bo _ _ ut _ items names =>
    if k = 1 then decide (vk = 1) && bo else if k = 2 then decide (vk = 1) && !bo else if k = 3 then decide (vk = 1) else if k = 4 then decide (vk = 2) else if k = 5 then decide (vk = 3)
    else if k = 6 then decide (vk = 4) && decide (ut = name) else if k = 7 then decide (vk = 5) && items.all (fun x => Ty.takesOne elem x)
    else if k = 8 then decide (vk = 6) && ((names.zip items).all (fun p => Atr.takes attrs p.1 p.2) && attrs.all (fun a => a.opt || names.any fun n => decide (n = a.name))) else false
def Ty.takesOne : List Ty → Val → Bool
  | [], _ => false
  | t :: r, x => r.isEmpty && t.takes x
def Atr.takes1 : Atr → Val → Bool
  | .mk _ t _, x => t.takes x
/-- the first of this name takes it -/
def Atr.takes : List Atr → ByteArray → Val → Bool
  | [], _, _ => false
  | a :: r, n, x => if a.name = n then a.takes1 x else Atr.takes r n x
end
mutual
/-- is each value of one of the other -/
def Ty.under : Ty → Ty → Bool
  | .mk k n e ts, .mk k' n' e' ts' =>
    if k = 0 ∨ (k = 1 ∨ k = 2) ∧ k' = 3 then true else if k ≠ k' ∨ k = 6 ∧ n ≠ n' then false else if k = 7 then Ty.underE e e' else if k ≠ 8 then true else Atr.unders ts ts'
def Ty.underE : List Ty → List Ty → Bool
  | [], _ => false
  | a :: _, e' => match e' with | [] => false | b :: _ => a.under b
def Atr.under1 : Atr → Atr → Bool
  | .mk n t o, .mk n' t' o' => decide (n = n') && (t.under t' && (!o || o'))
def Atr.unders : List Atr → List Atr → Bool
  | [], l => l.isEmpty
  | a :: r, l => match l with | [] => false | b :: s => a.under1 b && Atr.unders r s
end
mutual
/-- of sets, what they hold is one -/
def Ty.ones : Ty → Bool
  | .mk k _ elem attrs => (decide (k ≠ 7) || elem.length == 1) && (Ty.onesL elem && Atr.onesL attrs)
def Ty.onesL : List Ty → Bool
  | [] => true
  | t :: r => t.ones && Ty.onesL r
def Atr.ones1 : Atr → Bool
  | .mk _ t _ => t.ones
def Atr.onesL : List Atr → Bool
  | [] => true
  | a :: r => a.ones1 && Atr.onesL r
end
theorem belows_opt : ∀ {ts ts' : List Atr} {p : ByteArray → Bool}, Atr.unders ts ts' = true → ts.all (fun a => a.opt || p a.name) = true → ts'.all (fun a => a.opt || p a.name) = true
  | [], ts', _, h, _ => by
    unfold Atr.unders at h
    cases ts' with
    | nil => rfl
    | cons b s => simp at h
  | .mk n t o :: r, ts', p, h, hp => by
    unfold Atr.unders at h
    cases ts' with
    | nil => simp at h
    | cons b s =>
      obtain ⟨n', t', o'⟩ := b
      simp only [Atr.under1, Bool.and_eq_true, decide_eq_true_eq, Bool.or_eq_true, Bool.not_eq_true'] at h
      obtain ⟨⟨rfl, _, ho⟩, hr⟩ := h
      simp only [List.all_cons, Bool.and_eq_true, Bool.or_eq_true] at hp ⊢
      refine ⟨?_, belows_opt hr hp.2⟩
      rcases hp.1 with h1 | h1
      · rcases ho with h2 | h2
        · have h1 : o = true := h1
          rw [h1] at h2; cases h2
        · exact .inl h2
      · exact .inr h1
mutual
theorem Ty.takes_below : ∀ (a b : Ty) (v : Val), a.under b = true → b.ones = true → a.takes v = true → b.takes v = true
  | .mk k n e ts, .mk k' n' e' ts', .mk vk bo i t ut ui items names, h, ho, hv => by
    unfold Ty.under at h
    unfold Ty.takes at hv ⊢
    unfold Ty.ones at ho
    simp only [Bool.and_eq_true, Bool.or_eq_true, decide_eq_true_eq] at ho
    by_cases h0 : k = 0 ∨ (k = 1 ∨ k = 2) ∧ k' = 3
    · rcases h0 with rfl | ⟨rfl | rfl, rfl⟩
      · simp at hv
      · simp at hv ⊢; exact hv.1
      · simp at hv ⊢; exact hv.1
    · rw [if_neg h0] at h
      by_cases h1 : k ≠ k' ∨ k = 6 ∧ n ≠ n'
      · rw [if_pos h1] at h; cases h
      · rw [if_neg h1] at h
        have hk : k = k' := Decidable.byContradiction fun e => h1 (.inl e)
        subst hk
        by_cases h7 : k = 7
        · subst h7
          simp only [if_neg (show ¬ (7 : Int) = 1 by decide), if_neg (show ¬ (7 : Int) = 2 by decide), if_neg (show ¬ (7 : Int) = 3 by decide), if_neg (show ¬ (7 : Int) = 4 by decide), if_neg (show ¬ (7 : Int) = 5 by decide), if_neg (show ¬ (7 : Int) = 6 by decide), if_pos, Bool.and_eq_true, decide_eq_true_eq, List.all_eq_true] at hv h ⊢
          have he : e'.length = 1 := by simpa using ho.1.resolve_left (by simp)
          exact ⟨hv.1, fun x hx => Ty.takesOne_below e e' x h he ho.2.1 (hv.2 x hx)⟩
        · rw [if_neg h7] at h
          by_cases h8 : k = 8
          · subst h8
            rw [if_neg (by simp)] at h
            simp only [if_neg (show ¬ (8 : Int) = 1 by decide), if_neg (show ¬ (8 : Int) = 2 by decide), if_neg (show ¬ (8 : Int) = 3 by decide), if_neg (show ¬ (8 : Int) = 4 by decide), if_neg (show ¬ (8 : Int) = 5 by decide), if_neg (show ¬ (8 : Int) = 6 by decide), if_neg (show ¬ (8 : Int) = 7 by decide), if_pos, Bool.and_eq_true, decide_eq_true_eq] at hv ⊢
            refine ⟨hv.1, ?_, belows_opt (p := fun m => names.any fun n => decide (n = m)) h hv.2.2⟩
            rw [List.all_eq_true] at hv ⊢
            exact fun p hp => Atr.takes_belows ts ts' p.1 p.2 h ho.2.2 (hv.2.1 p hp)
          · have h6 : k = 6 → n = n' := fun e => Decidable.byContradiction fun hn => h1 (.inr ⟨e, hn⟩)
            by_cases h6' : k = 6
            · obtain rfl := h6 h6'
              subst h6'
              simpa using hv
            · simp only [h7, h8, h6', if_false] at hv ⊢
              exact hv
theorem Ty.takesOne_below : ∀ (e e' : List Ty) (x : Val), Ty.underE e e' = true → e'.length = 1 → Ty.onesL e' = true → Ty.takesOne e x = true → Ty.takesOne e' x = true
  | [], _, _, h, _, _, _ => by simp [Ty.underE] at h
  | a :: r, e', x, h, hl, ho, hx => by
    match e', hl with
    | [b], _ =>
      unfold Ty.underE at h
      unfold Ty.takesOne at hx ⊢
      simp only [Ty.onesL, Bool.and_eq_true] at ho hx ⊢
      exact ⟨rfl, Ty.takes_below a b x h ho.1 hx.2⟩
theorem Atr.takes1_below : ∀ (a b : Atr) (x : Val), a.under1 b = true → b.ones1 = true → a.takes1 x = true → b.takes1 x = true
  | .mk n t o, .mk n' t' o', x, h, ho, hx => by
    simp only [Atr.under1, Bool.and_eq_true] at h
    unfold Atr.takes1 at hx ⊢
    exact Ty.takes_below t t' x h.2.1 ho hx
theorem Atr.takes_belows : ∀ (ts ts' : List Atr) (n : ByteArray) (x : Val), Atr.unders ts ts' = true → Atr.onesL ts' = true → Atr.takes ts n x = true → Atr.takes ts' n x = true
  | [], _, _, _, _, _, hx => by simp [Atr.takes] at hx
  | a :: r, ts', n, x, h, ho, hx => by
    unfold Atr.unders at h
    cases ts' with
    | nil => simp at h
    | cons b s =>
      simp only [Bool.and_eq_true] at h
      simp only [Atr.onesL, Bool.and_eq_true] at ho
      unfold Atr.takes at hx ⊢
      have hn : a.name = b.name := by
        obtain ⟨n1, t1, o1⟩ := a
        obtain ⟨n2, t2, o2⟩ := b
        simp only [Atr.under1, Bool.and_eq_true, decide_eq_true_eq] at h
        exact h.1.1
      rw [← hn]
      by_cases ha : a.name = n
      · rw [if_pos ha] at hx ⊢
        exact Atr.takes1_below a b x h.1 ho.1 hx
      · rw [if_neg ha] at hx ⊢
        exact Atr.takes_belows r s n x h.2 ho.2 hx
end
end Go.Proofs.YtjllolagcdjlnaaGreat
