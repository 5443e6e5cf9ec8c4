/-
  The order of values, as plain mathematics: turning round, going over three. No program in sight. The conditions: none (definitions and lemmas).
-/
import Derived.Test.YtpkgkabcikmopaaRep
namespace Go.Proofs.Ytpkgkabcikmopaa
open Go.RowKit

def cmpI (a b : Int) : Int := if a < b then -1 else if b < a then 1 else 0
def cmpL : List UInt8 → List UInt8 → Int
  | [], [] => 0
  | [], _ :: _ => -1
  | _ :: _, [] => 1
  | x :: r, y :: s => if x < y then -1 else if y < x then 1 else cmpL r s
def cmpS (a b : ByteArray) : Int := cmpL a.toList b.toList
def lex2 (a b : Int) : Int := if a = 0 then b else a
def lexL {α : Type} (c : α → α → Int) : List α → List α → Int
  | [], [] => 0
  | [], _ :: _ => -1
  | _ :: _, [] => 1
  | x :: r, y :: s => lex2 (c x y) (lexL c r s)
def bit (b : Bool) : Int := if b then 1 else 0

theorem bytesLess_cmpL : ∀ a b : List UInt8, Op.bytesLess a b = decide (cmpL a b = -1)
  | [], [] => by simp [Op.bytesLess, cmpL]
  | [], _ :: _ => by simp [Op.bytesLess, cmpL]
  | _ :: _, [] => by simp [Op.bytesLess, cmpL]
  | x :: r, y :: s => by
    simp only [Op.bytesLess, cmpL, bytesLess_cmpL r s]
    by_cases h1 : x < y
    · simp [h1]
    · by_cases h2 : y < x
      · have h3 : x ≠ y := by rintro rfl; exact absurd h2 h1
        simp [h1, h2, h3]
      · have h3 : x = y := by
          apply UInt8.toNat_inj.1
          rw [UInt8.lt_iff_toNat_lt] at h1 h2; omega
        simp [h3]

/-- a comparison that behaves, at one element -/
structure GoodAt {α : Type} (c : α → α → Int) (a : α) : Prop where
  refl : c a a = 0
  turn : ∀ b, c b a = -(c a b)
  range : ∀ b, c a b = -1 ∨ c a b = 0 ∨ c a b = 1
  cong : ∀ b d, c a b = 0 → c b d = c a d
  less : ∀ b d, c a b = -1 → c b d ≤ 0 → c a d = -1

theorem GoodAt.cmpI (a : Int) : GoodAt cmpI a where
  refl := by simp [Go.Proofs.Ytpkgkabcikmopaa.cmpI]
  turn b := by unfold Go.Proofs.Ytpkgkabcikmopaa.cmpI; repeat' split <;> omega
  range b := by unfold Go.Proofs.Ytpkgkabcikmopaa.cmpI; repeat' split <;> omega
  cong b d h := by
    unfold Go.Proofs.Ytpkgkabcikmopaa.cmpI at h
    have : a = b := by repeat' split at h <;> omega
    rw [this]
  less b d h k := by
    unfold Go.Proofs.Ytpkgkabcikmopaa.cmpI at *
    repeat' split at h <;> try omega
    repeat' split at k <;> try omega
    all_goals rw [if_pos (by omega)]

theorem cmpL_refl : ∀ a : List UInt8, cmpL a a = 0
  | [] => rfl
  | x :: r => by simp [cmpL, cmpL_refl r]
theorem cmpL_turn : ∀ a b : List UInt8, cmpL b a = -(cmpL a b)
  | [], [] => rfl
  | [], _ :: _ => rfl
  | _ :: _, [] => rfl
  | x :: r, y :: s => by
    simp only [cmpL, cmpL_turn r s, UInt8.lt_iff_toNat_lt]
    repeat' split <;> first | rfl | omega
theorem cmpL_range : ∀ a b : List UInt8, cmpL a b = -1 ∨ cmpL a b = 0 ∨ cmpL a b = 1
  | [], [] => by simp [cmpL]
  | [], _ :: _ => by simp [cmpL]
  | _ :: _, [] => by simp [cmpL]
  | x :: r, y :: s => by
    simp only [cmpL]
    split
    · simp
    · split
      · simp
      · exact cmpL_range r s
theorem cmpL_eq : ∀ a b : List UInt8, cmpL a b = 0 → a = b
  | [], [] => by simp
  | [], _ :: _ => by simp [cmpL]
  | _ :: _, [] => by simp [cmpL]
  | x :: r, y :: s => by
    simp only [cmpL, UInt8.lt_iff_toNat_lt]
    split
    · simp
    · split
      · simp
      · intro h
        have := cmpL_eq r s h
        have hx : x = y := UInt8.toNat_inj.1 (by omega)
        rw [this, hx]
theorem cmpL_less : ∀ a b d : List UInt8, cmpL a b = -1 → cmpL b d ≤ 0 → cmpL a d = -1
  | [], [], _ => by simp [cmpL]
  | [], _ :: _, [] => by simp [cmpL]
  | [], _ :: _, _ :: _ => by simp [cmpL]
  | _ :: _, [], _ => by simp [cmpL]
  | _ :: _, _ :: _, [] => by simp [cmpL]
  | x :: r, y :: s, z :: t => by
    simp only [cmpL, UInt8.lt_iff_toNat_lt]
    intro h k
    by_cases h1 : x.toNat < y.toNat
    · by_cases h2 : y.toNat < z.toNat
      · rw [if_pos (by omega)]
      · rw [if_neg h2] at k
        by_cases h3 : z.toNat < y.toNat
        · rw [if_pos h3] at k; omega
        · rw [if_pos (by omega)]
    · rw [if_neg h1] at h
      by_cases h2 : y.toNat < x.toNat
      · rw [if_pos h2] at h; omega
      · rw [if_neg h2] at h
        by_cases h3 : y.toNat < z.toNat
        · rw [if_pos (by omega)]
        · rw [if_neg h3] at k
          by_cases h4 : z.toNat < y.toNat
          · rw [if_pos h4] at k; omega
          · rw [if_neg h4] at k
            rw [if_neg (by omega), if_neg (by omega)]
            exact cmpL_less r s t h k

theorem toList_inj {a b : ByteArray} (h : a.toList = b.toList) : a = b := by
  rw [ByteArray.toList_eq, ByteArray.toList_eq] at h
  exact WideShapes.bytes_inj h

theorem cmpS_eq {a b : ByteArray} (h : cmpS a b = 0) : a = b := toList_inj (cmpL_eq _ _ h)
theorem cmpS_refl (a : ByteArray) : cmpS a a = 0 := cmpL_refl _

theorem GoodAt.cmpS (a : ByteArray) : GoodAt cmpS a where
  refl := cmpL_refl _
  turn b := cmpL_turn _ _
  range b := cmpL_range _ _
  cong b d h := by rw [cmpS_eq h]
  less b d h k := cmpL_less _ _ _ h k

theorem GoodAt.lexL {α : Type} {c : α → α → Int} : ∀ {l : List α}, (∀ x ∈ l, GoodAt c x) → GoodAt (lexL c) l
  | [], _ => by
    constructor
    · rfl
    · intro b; cases b <;> simp [Go.Proofs.Ytpkgkabcikmopaa.lexL]
    · intro b; cases b <;> simp [Go.Proofs.Ytpkgkabcikmopaa.lexL]
    · intro b d; cases b <;> simp [Go.Proofs.Ytpkgkabcikmopaa.lexL]
    · intro b d; cases b <;> cases d <;> simp [Go.Proofs.Ytpkgkabcikmopaa.lexL]
  | x :: r, h => by
    have hx := h x (by simp)
    have ih := GoodAt.lexL (l := r) fun y hy => h y (by simp [hy])
    constructor
    · simp [Go.Proofs.Ytpkgkabcikmopaa.lexL, lex2, hx.refl, ih.refl]
    · intro b
      cases b with
      | nil => simp [Go.Proofs.Ytpkgkabcikmopaa.lexL]
      | cons y s =>
        have h1 := hx.turn y
        have h2 := ih.turn s
        simp only [Go.Proofs.Ytpkgkabcikmopaa.lexL, lex2]
        repeat' split <;> omega
    · intro b
      cases b with
      | nil => simp [Go.Proofs.Ytpkgkabcikmopaa.lexL]
      | cons y s =>
        have h1 := hx.range y
        have h2 := ih.range s
        simp only [Go.Proofs.Ytpkgkabcikmopaa.lexL, lex2]
        repeat' split <;> omega
    · intro b d hb
      cases b with
      | nil => simp [Go.Proofs.Ytpkgkabcikmopaa.lexL] at hb
      | cons y s =>
        simp only [Go.Proofs.Ytpkgkabcikmopaa.lexL, lex2] at hb
        have h0 : c x y = 0 := by
          split at hb
          · assumption
          · exact hb
        rw [if_pos h0] at hb
        cases d with
        | nil => simp [Go.Proofs.Ytpkgkabcikmopaa.lexL]
        | cons z t => simp only [Go.Proofs.Ytpkgkabcikmopaa.lexL, hx.cong y z h0, ih.cong s t hb]
    · intro b d hb hd
      cases b with
      | nil => simp [Go.Proofs.Ytpkgkabcikmopaa.lexL] at hb
      | cons y s =>
        cases d with
        | nil => simp [Go.Proofs.Ytpkgkabcikmopaa.lexL] at hd
        | cons z t =>
          simp only [Go.Proofs.Ytpkgkabcikmopaa.lexL, lex2] at hb hd ⊢
          by_cases h0 : c x y = 0
          · rw [if_pos h0] at hb
            rw [hx.cong y z h0] at hd
            by_cases h1 : c x z = 0
            · rw [if_pos h1] at hd ⊢
              exact ih.less s t hb hd
            · rw [if_neg h1] at hd ⊢
              have := hx.range z; omega
          · rw [if_neg h0] at hb
            have h3 : c y z ≤ 0 := by
              by_cases h1 : c y z = 0
              · omega
              · rw [if_neg h1] at hd; exact hd
            have := hx.less y z hb h3
            rw [if_neg (by omega)]
            exact this

theorem lexL_eq {α : Type} {c : α → α → Int} : ∀ {l m : List α}, (∀ x ∈ l, ∀ y ∈ m, c x y = 0 → x = y) → lexL c l m = 0 → l = m
  | [], [], _, _ => rfl
  | [], _ :: _, _, h => by simp [lexL] at h
  | _ :: _, [], _, h => by simp [lexL] at h
  | x :: r, y :: s, hc, h => by
    simp only [lexL, lex2] at h
    have h0 : c x y = 0 := by
      split at h
      · assumption
      · exact h
    rw [if_pos h0] at h
    rw [hc x (by simp) y (by simp) h0, lexL_eq (fun a ha b hb => hc a (by simp [ha]) b (by simp [hb])) h]

theorem lexL_length {α : Type} {c : α → α → Int} : ∀ {l m : List α}, lexL c l m = 0 → l.length = m.length
  | [], [], _ => rfl
  | [], _ :: _, h => by simp [lexL] at h
  | _ :: _, [], h => by simp [lexL] at h
  | x :: r, y :: s, h => by
    simp only [lexL, lex2] at h
    have h0 : c x y = 0 := by
      split at h
      · assumption
      · exact h
    rw [if_pos h0] at h
    simp [lexL_length h]

mutual
/-- the elements of two rows, as far as they go: so many of the first, so many of the second -/
def Val.ord : Val → Val → Int
  | .mk k bo n t ut ui items names, .mk k' bo' n' t' ut' ui' items' names' =>
    if k ≠ k' then cmpI k k' else
    if k = 1 then cmpI (bit bo) (bit bo') else
    if k = 2 then cmpI n n' else
    if k = 3 then cmpS t t' else
    if k = 4 then lex2 (cmpS ut ut') (cmpS ui ui') else
    if k = 5 then Val.ords items items.length items' items'.length else
    if k = 6 then lex2 (lexL cmpS names names') (Val.ords items names.length items' names'.length) else 0
def Val.ords : List Val → Nat → List Val → Nat → Int
  | [], _, l, m => if l = [] ∨ m = 0 then 0 else -1
  | _ :: _, 0, l, m => if l = [] ∨ m = 0 then 0 else -1
  | _ :: _, _ + 1, [], _ => 1
  | _ :: _, _ + 1, _ :: _, 0 => 1
  | x :: r, n + 1, y :: s, m + 1 => lex2 (Val.ord x y) (Val.ords r n s m)
end

theorem Val.ords_eq : ∀ (l : List Val) (n : Nat) (l' : List Val) (m : Nat), Val.ords l n l' m = lexL Val.ord (l.take n) (l'.take m)
  | [], n, [], m => by simp [Val.ords, lexL]
  | [], n, y :: s, 0 => by simp [Val.ords, lexL]
  | [], n, y :: s, m + 1 => by simp [Val.ords, lexL]
  | x :: r, 0, [], m => by simp [Val.ords, lexL]
  | x :: r, 0, y :: s, 0 => by simp [Val.ords, lexL]
  | x :: r, 0, y :: s, m + 1 => by simp [Val.ords, lexL]
  | x :: r, n + 1, [], m => by simp [Val.ords, lexL]
  | x :: r, n + 1, y :: s, 0 => by simp [Val.ords, lexL]
  | x :: r, n + 1, y :: s, m + 1 => by simp [Val.ords, lexL, Val.ords_eq r n s m]

theorem Val.ord_def (a b : Val) : a.ord b = if a.kind ≠ b.kind then cmpI a.kind b.kind else
    if a.kind = 1 then cmpI (bit a.bo) (bit b.bo) else
    if a.kind = 2 then cmpI a.num b.num else
    if a.kind = 3 then cmpS a.text b.text else
    if a.kind = 4 then lex2 (cmpS a.ut b.ut) (cmpS a.ui b.ui) else
    if a.kind = 5 then lexL Val.ord a.items b.items else
    if a.kind = 6 then lex2 (lexL cmpS a.names b.names) (lexL Val.ord (a.items.take a.names.length) (b.items.take b.names.length)) else 0 := by
  cases a; cases b
  simp only [Val.ord, Val.ords_eq, Val.kind, Val.bo, Val.num, Val.text, Val.ut, Val.ui, Val.items, Val.names, List.take_length]
  rfl

/-- two comparisons, one behind the other -/
theorem GoodAt.both {α β : Type} {c : α → α → Int} {d : β → β → Int} {a : α} {x : β} (h : GoodAt c a) (k : GoodAt d x) : GoodAt (fun p q : α × β => lex2 (c p.1 q.1) (d p.2 q.2)) (a, x) where
  refl := by simp [lex2, h.refl, k.refl]
  turn b := by
    have h1 := h.turn b.1
    have h2 := k.turn b.2
    simp only [lex2]
    repeat' split <;> omega
  range b := by
    have h1 := h.range b.1
    have h2 := k.range b.2
    simp only [lex2]
    repeat' split <;> omega
  cong b e hb := by
    simp only [lex2] at hb
    have h0 : c a b.1 = 0 := by
      split at hb
      · assumption
      · exact hb
    rw [if_pos h0] at hb
    simp only [h.cong b.1 e.1 h0, k.cong b.2 e.2 hb]
  less b e hb he := by
    simp only [lex2] at hb he ⊢
    by_cases h0 : c a b.1 = 0
    · rw [if_pos h0] at hb
      rw [h.cong b.1 e.1 h0] at he
      by_cases h1 : c a e.1 = 0
      · rw [if_pos h1] at he ⊢
        exact k.less b.2 e.2 hb he
      · rw [if_neg h1] at he ⊢
        have := h.range e.1; omega
    · rw [if_neg h0] at hb
      have h3 : c b.1 e.1 ≤ 0 := by
        by_cases h1 : c b.1 e.1 = 0
        · omega
        · rw [if_neg h1] at he; exact he
      have := h.less b.1 e.1 hb h3
      rw [if_neg (by omega)]
      exact this

/-- what is compared is told by a part -/
theorem GoodAt.part {α β : Type} {c : β → β → Int} (f : α → β) {a : α} (h : GoodAt c (f a)) : GoodAt (fun p q => c (f p) (f q)) a :=
  ⟨h.refl, fun _ => h.turn _, fun _ => h.range _, fun _ _ => h.cong _ _, fun _ _ => h.less _ _⟩

theorem Val.mem_size {v x : Val} (h : x ∈ v.items) : SizeOf.sizeOf x < SizeOf.sizeOf v := by
  cases v
  have := List.sizeOf_lt_of_mem h
  simp only [Val.items] at this
  simp; omega

theorem Val.good : ∀ (n : Nat) (a : Val), SizeOf.sizeOf a ≤ n → GoodAt Val.ord a
  | 0, a, h => by cases a; simp at h
  | n + 1, a, h => by
    have ih : ∀ x ∈ a.items, GoodAt Val.ord x := fun x hx => Val.good n x (by have := Val.mem_size hx; omega)
    have i5 : GoodAt (fun p q : Val => Go.Proofs.Ytpkgkabcikmopaa.lexL Val.ord p.items q.items) a := GoodAt.part (c := Go.Proofs.Ytpkgkabcikmopaa.lexL Val.ord) Val.items (GoodAt.lexL ih)
    have i6 : GoodAt (fun p q : Val => lex2 (Go.Proofs.Ytpkgkabcikmopaa.lexL Go.Proofs.Ytpkgkabcikmopaa.cmpS p.names q.names) (Go.Proofs.Ytpkgkabcikmopaa.lexL Val.ord (p.items.take p.names.length) (q.items.take q.names.length))) a :=
      GoodAt.part (fun p : Val => (p.names, p.items.take p.names.length)) (GoodAt.both (c := Go.Proofs.Ytpkgkabcikmopaa.lexL Go.Proofs.Ytpkgkabcikmopaa.cmpS) (d := Go.Proofs.Ytpkgkabcikmopaa.lexL Val.ord) (GoodAt.lexL fun x _ => GoodAt.cmpS x) (GoodAt.lexL fun x hx => ih x (List.mem_of_mem_take hx)))
    have i1 : GoodAt (fun p q : Val => Go.Proofs.Ytpkgkabcikmopaa.cmpI (bit p.bo) (bit q.bo)) a := GoodAt.part (fun p : Val => bit p.bo) (GoodAt.cmpI _)
    have i2 : GoodAt (fun p q : Val => Go.Proofs.Ytpkgkabcikmopaa.cmpI p.num q.num) a := GoodAt.part Val.num (GoodAt.cmpI _)
    have i3 : GoodAt (fun p q : Val => Go.Proofs.Ytpkgkabcikmopaa.cmpS p.text q.text) a := GoodAt.part Val.text (GoodAt.cmpS _)
    have i4 : GoodAt (fun p q : Val => lex2 (Go.Proofs.Ytpkgkabcikmopaa.cmpS p.ut q.ut) (Go.Proofs.Ytpkgkabcikmopaa.cmpS p.ui q.ui)) a := GoodAt.part (fun p : Val => (p.ut, p.ui)) (GoodAt.both (GoodAt.cmpS _) (GoodAt.cmpS _))
    have ik : GoodAt (fun p q : Val => Go.Proofs.Ytpkgkabcikmopaa.cmpI p.kind q.kind) a := GoodAt.part Val.kind (GoodAt.cmpI _)
    -- behind the kind each has its own
    have hk : ∃ f : Val → Val → Int, GoodAt f a ∧ ∀ p q : Val, p.kind = a.kind → q.kind = a.kind → p.ord q = f p q := by
      by_cases h1 : a.kind = 1
      · exact ⟨_, i1, fun p q hp hq => by rw [Val.ord_def, if_neg (by simp [hp, hq]), if_pos (by omega)]⟩
      by_cases h2 : a.kind = 2
      · exact ⟨_, i2, fun p q hp hq => by rw [Val.ord_def, if_neg (by simp [hp, hq]), if_neg (by omega), if_pos (by omega)]⟩
      by_cases h3 : a.kind = 3
      · exact ⟨_, i3, fun p q hp hq => by rw [Val.ord_def, if_neg (by simp [hp, hq]), if_neg (by omega), if_neg (by omega), if_pos (by omega)]⟩
      by_cases h4 : a.kind = 4
      · exact ⟨_, i4, fun p q hp hq => by rw [Val.ord_def, if_neg (by simp [hp, hq]), if_neg (by omega), if_neg (by omega), if_neg (by omega), if_pos (by omega)]⟩
      by_cases h5 : a.kind = 5
      · exact ⟨_, i5, fun p q hp hq => by rw [Val.ord_def, if_neg (by simp [hp, hq]), if_neg (by omega), if_neg (by omega), if_neg (by omega), if_neg (by omega), if_pos (by omega)]⟩
      by_cases h6 : a.kind = 6
      · exact ⟨_, i6, fun p q hp hq => by rw [Val.ord_def, if_neg (by simp [hp, hq]), if_neg (by omega), if_neg (by omega), if_neg (by omega), if_neg (by omega), if_neg (by omega), if_pos (by omega)]⟩
      · exact ⟨fun _ _ => 0, ⟨rfl, by simp, by simp, by simp, by simp⟩, fun p q hp hq => by rw [Val.ord_def, if_neg (by simp [hp, hq]), if_neg (by omega), if_neg (by omega), if_neg (by omega), if_neg (by omega), if_neg (by omega), if_neg (by omega)]⟩
    obtain ⟨f, hf, he⟩ := hk
    have hne : ∀ p q : Val, p.kind ≠ q.kind → p.ord q = Go.Proofs.Ytpkgkabcikmopaa.cmpI p.kind q.kind := fun p q hpq => by rw [Val.ord_def, if_pos hpq]
    have hz : ∀ p q : Val, p.kind ≠ q.kind → p.ord q ≠ 0 := fun p q hpq => by
      rw [hne p q hpq]; unfold Go.Proofs.Ytpkgkabcikmopaa.cmpI; repeat' split <;> omega
    constructor
    · rw [he a a rfl rfl]; exact hf.refl
    · intro b
      by_cases hb : b.kind = a.kind
      · rw [he a b rfl hb, he b a hb rfl]; exact hf.turn b
      · rw [hne b a hb, hne a b (Ne.symm hb)]; exact ik.turn b
    · intro b
      by_cases hb : b.kind = a.kind
      · rw [he a b rfl hb]; exact hf.range b
      · rw [hne a b (Ne.symm hb)]; exact ik.range b
    · intro b d h0
      by_cases hb : b.kind = a.kind
      · by_cases hd : d.kind = a.kind
        · rw [he a b rfl hb] at h0
          rw [he b d hb hd, he a d rfl hd]; exact hf.cong b d h0
        · rw [hne b d (by omega), hne a d (by omega), hb]
      · exact absurd h0 (hz a b (Ne.symm hb))
    · intro b d h0 h1
      by_cases hb : b.kind = a.kind
      · by_cases hd : d.kind = a.kind
        · rw [he a b rfl hb] at h0
          rw [he b d hb hd] at h1
          rw [he a d rfl hd]; exact hf.less b d h0 h1
        · rw [hne b d (by omega)] at h1
          rw [hne a d (by omega), ← hb]
          have := (GoodAt.cmpI b.kind).range d.kind
          have h2 := hz b d (by omega)
          rw [hne b d (by omega)] at h2
          omega
      · rw [hne a b (Ne.symm hb)] at h0
        by_cases hd : d.kind = b.kind
        · rw [hne a d (by omega), hd]; exact h0
        · rw [hne b d (by omega)] at h1
          by_cases had : a.kind = d.kind
          · exfalso
            rw [← had] at h1
            have h3 := (GoodAt.cmpI a.kind).turn b.kind
            omega
          · rw [hne a d had]
            exact ik.less b d h0 h1

theorem Val.goodAt (a : Val) : GoodAt Val.ord a := Val.good _ a (Nat.le_refl _)

end Go.Proofs.Ytpkgkabcikmopaa
