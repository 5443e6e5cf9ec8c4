/-
  Values as bytes, as plain data: what the bytes of a value are, how long they are, that they tell the value. No program in sight. The conditions: none (definitions and lemmas).
-/
import Derived.Test.YtpkgkabcikmopaaFacts
namespace Go.Proofs.Ytpkgkabcikmopaa
open Go.RowKit

/-! ### how much a value is -/
def nameSum (l : List ByteArray) : Nat := (l.map fun s => s.size + 1).sum
mutual
def Val.mass : Val → Nat
  | .mk _ _ _ t ut ui items names => 1 + t.size + ut.size + ui.size + Val.masses items + nameSum names
def Val.masses : List Val → Nat
  | [] => 0
  | v :: r => v.mass + Val.masses r
end
theorem Val.masses_eq : ∀ l : List Val, Val.masses l = (l.map Val.mass).sum
  | [] => rfl
  | v :: r => by simp [Val.masses, Val.masses_eq r]
theorem Val.mass_pos (v : Val) : 1 ≤ v.mass := by cases v; simp only [Val.mass]; omega
theorem Val.masses_length (l : List Val) : l.length ≤ Val.masses l := by
  induction l with
  | nil => simp [Val.masses]
  | cons v r ih => have := Val.mass_pos v; simp only [Val.masses, List.length_cons]; omega
theorem nameSum_length (l : List ByteArray) : l.length ≤ nameSum l := by
  induction l with
  | nil => simp [nameSum]
  | cons s r ih => simp only [nameSum, List.map_cons, List.sum_cons, List.length_cons] at ih ⊢; omega
theorem ins_sum {α : Type} {c : α → α → Int} (f : α → Nat) (x : α) : ∀ l : List α, ((ins c x l).map f).sum ≤ f x + (l.map f).sum
  | [] => by simp [ins]
  | y :: r => by
    simp only [ins]
    split
    · have := ins_sum (c := c) f x r; simp only [List.map_cons, List.sum_cons]; omega
    · split <;> simp
theorem sortU_sum {α : Type} {c : α → α → Int} (f : α → Nat) (l : List α) : ((sortU c l).map f).sum ≤ (l.map f).sum := by
  have h : ∀ (l a : List α), ((l.foldl (fun a x => ins c x a) a).map f).sum ≤ (l.map f).sum + (a.map f).sum := by
    intro l
    induction l with
    | nil => intro a; simp
    | cons x r ih =>
      intro a
      rw [List.foldl_cons]
      have h1 := ih (ins c x a)
      have h2 := ins_sum (c := c) f x a
      simp only [List.map_cons, List.sum_cons]; omega
  simpa [sortU] using h l []
theorem zip_sums : ∀ (names : List ByteArray) (l : List Val), ((names.zip l).map fun p => p.2.mass + (p.1.size + 1)).sum ≤ Val.masses l + nameSum names
  | [], l => by simp
  | s :: r, [] => by simp
  | s :: r, v :: l => by
    have := zip_sums r l
    simp only [List.zip_cons_cons, List.map_cons, List.sum_cons, Val.masses, nameSum] at this ⊢; omega
theorem sum_add {α : Type} (f g : α → Nat) : ∀ l : List α, (l.map fun x => f x + g x).sum = (l.map f).sum + (l.map g).sum
  | [] => rfl
  | x :: r => by simp only [List.map_cons, List.sum_cons, sum_add f g r]; omega
theorem record_mass (names : List ByteArray) (l : List Val) : (record names l).1.mass ≤ 1 + Val.masses l + nameSum names := by
  unfold record
  split
  · have h := sortU_sum (c := cmpN) (fun p : ByteArray × Val => p.2.mass + (p.1.size + 1)) (names.zip l)
    rw [sum_add] at h
    have h2 := zip_sums names l
    simp only [Val.mass, Val.masses_eq, nameSum, List.map_map, Function.comp_def] at h2 ⊢
    simp [empty] at h h2 ⊢
    omega
  · simp [Val.zero, Val.mass, Val.masses, nameSum]
    omega
mutual
theorem Val.can_mass : ∀ v : Val, v.can.1.mass ≤ v.mass
  | .mk k bo n t ut ui items names => by
    have hz : Val.zero.mass = 1 := by simp [Val.zero, Val.mass, Val.masses, nameSum]
    have hi := Val.cans_mass items
    have hs := sortU_sum (c := Val.ord) Val.mass (Val.cans items).1
    have hr := record_mass names (Val.cans items).1
    rw [← Val.masses_eq, ← Val.masses_eq] at hs
    have he : empty.size = 0 := rfl
    have hn : nameSum [] = 0 := rfl
    have hm : Val.masses [] = 0 := rfl
    simp only [Val.can]
    repeat' split
    all_goals simp only [Val.mass] at *
    all_goals omega
theorem Val.cans_mass : ∀ l : List Val, Val.masses (Val.cans l).1 ≤ Val.masses l
  | [] => by simp [Val.cans]
  | v :: r => by
    have h1 := Val.can_mass v
    have h2 := Val.cans_mass r
    simp only [Val.cans]
    repeat' split
    all_goals simp only [Val.masses]
    all_goals omega
end
theorem Val.canon_mass (v : Val) : v.canon.1.mass ≤ v.mass := by
  unfold Val.canon
  split
  · have hz : Val.zero.mass = 1 := by simp [Val.zero, Val.mass, Val.masses, nameSum]
    have := Val.mass_pos v
    show Val.zero.mass ≤ v.mass
    omega
  · exact Val.can_mass v

/-! ### the bytes -/
def be4 (n : Nat) : List UInt8 := [.ofNat (n / 16777216), .ofNat (n / 65536), .ofNat (n / 256), .ofNat n]
def be8 (n : Nat) : List UInt8 := [.ofNat (n / 72057594037927936), .ofNat (n / 281474976710656), .ofNat (n / 1099511627776), .ofNat (n / 4294967296), .ofNat (n / 16777216), .ofNat (n / 65536), .ofNat (n / 256), .ofNat n]
def txt (s : ByteArray) : List UInt8 := be4 s.size ++ s.data.toList
/-- a number as 64 bits -/
def bits64 (n : Int) : Nat := (n % 18446744073709551616).toNat
mutual
def Val.enc : Val → List UInt8
  | .mk k bo n t ut ui items names => UInt8.ofNat (k % 256).toNat :: (if k = 1 then [if bo then 1 else 0] else if k = 2 then be8 (bits64 n) else if k = 3 then txt t else if k = 4 then txt ut ++ txt ui else be4 items.length ++ Val.encs (k == 6) items names)
def Val.encs : Bool → List Val → List ByteArray → List UInt8
  | _, [], _ => []
  | rc, v :: r, names => (if rc then txt (names.headD empty) else []) ++ (v.enc ++ Val.encs rc r names.tail)
end
theorem Val.encs_snoc : ∀ {rc : Bool} {l : List Val} {names : List ByteArray} {k : Nat} {x : Val} {nm : ByteArray}, l[k]? = some x → (rc = true → names[k]? = some nm) → Val.encs rc (l.take (k + 1)) names = Val.encs rc (l.take k) names ++ ((if rc then txt nm else []) ++ x.enc)
  | _, [], _, _, _, _, h, _ => by simp at h
  | rc, y :: r, names, 0, x, nm, h, hn => by
    simp at h; subst h
    simp only [List.take_succ_cons, List.take_zero, Val.encs, List.nil_append, List.append_nil]
    cases rc with
    | false => rfl
    | true =>
      have := hn rfl
      cases names with
      | nil => simp at this
      | cons s q => simp at this; subst this; rfl
  | rc, y :: r, names, k + 1, x, nm, h, hn => by
    simp only [List.take_succ_cons, Val.encs, List.append_assoc]
    rw [Val.encs_snoc (rc := rc) (l := r) (names := names.tail) (k := k) (by simpa using h) (fun e => by
      have := hn e
      cases names with
      | nil => simp at this
      | cons s q => simpa using this)]
theorem Val.encs_take {rc : Bool} {l : List Val} {names : List ByteArray} : Val.encs rc (l.take l.length) names = Val.encs rc l names := by rw [List.take_length]
theorem be4_length (n : Nat) : (be4 n).length = 4 := rfl
theorem be8_length (n : Nat) : (be8 n).length = 8 := rfl
theorem txt_length (s : ByteArray) : (txt s).length = 4 + s.size := by
  simp only [txt, List.length_append, be4_length, Array.length_toList]; rfl
theorem Val.enc_1 (bo : Bool) (n : Int) (t ut ui : ByteArray) (items : List Val) (names : List ByteArray) : (Val.mk 1 bo n t ut ui items names).enc = [1, if bo then 1 else 0] := by unfold Val.enc; rfl
theorem Val.enc_2 (bo : Bool) (n : Int) (t ut ui : ByteArray) (items : List Val) (names : List ByteArray) : (Val.mk 2 bo n t ut ui items names).enc = 2 :: be8 (bits64 n) := by unfold Val.enc; rfl
theorem Val.enc_3 (bo : Bool) (n : Int) (t ut ui : ByteArray) (items : List Val) (names : List ByteArray) : (Val.mk 3 bo n t ut ui items names).enc = 3 :: txt t := by unfold Val.enc; rfl
theorem Val.enc_4 (bo : Bool) (n : Int) (t ut ui : ByteArray) (items : List Val) (names : List ByteArray) : (Val.mk 4 bo n t ut ui items names).enc = 4 :: (txt ut ++ txt ui) := by unfold Val.enc; rfl
theorem Val.enc_5 (bo : Bool) (n : Int) (t ut ui : ByteArray) (items : List Val) (names : List ByteArray) : (Val.mk 5 bo n t ut ui items names).enc = 5 :: (be4 items.length ++ Val.encs false items names) := by unfold Val.enc; rfl
theorem Val.enc_6 (bo : Bool) (n : Int) (t ut ui : ByteArray) (items : List Val) (names : List ByteArray) : (Val.mk 6 bo n t ut ui items names).enc = 6 :: (be4 items.length ++ Val.encs true items names) := by unfold Val.enc; rfl
theorem byte_inj {a b : Nat} (h : UInt8.ofNat a = UInt8.ofNat b) : a % 256 = b % 256 := by
  have := congrArg UInt8.toNat h
  simpa using this
theorem be4_inj {n m : Nat} (hn : n < 4294967296) (hm : m < 4294967296) (h : be4 n = be4 m) : n = m := by
  simp only [be4, List.cons.injEq, and_true] at h
  obtain ⟨h1, h2, h3, h4⟩ := h
  have h1 := byte_inj h1
  have h2 := byte_inj h2
  have h3 := byte_inj h3
  have h4 := byte_inj h4
  omega
theorem be8_inj {n m : Nat} (hn : n < 18446744073709551616) (hm : m < 18446744073709551616) (h : be8 n = be8 m) : n = m := by
  simp only [be8, List.cons.injEq, and_true] at h
  obtain ⟨h1, h2, h3, h4, h5, h6, h7, h8⟩ := h
  have h1 := byte_inj h1
  have h2 := byte_inj h2
  have h3 := byte_inj h3
  have h4 := byte_inj h4
  have h5 := byte_inj h5
  have h6 := byte_inj h6
  have h7 := byte_inj h7
  have h8 := byte_inj h8
  omega
theorem bits64_lt (n : Int) : bits64 n < 18446744073709551616 := by unfold bits64; omega
theorem bits64_inj {n m : Int} (hn : I64 n) (hm : I64 m) (h : bits64 n = bits64 m) : n = m := by
  unfold bits64 at h
  unfold I64 at hn hm
  omega
theorem txt_inj {s t : ByteArray} {r r' : List UInt8} (hs : s.size < 4294967296) (ht : t.size < 4294967296) (h : txt s ++ r = txt t ++ r') : s = t ∧ r = r' := by
  unfold txt at h
  rw [List.append_assoc, List.append_assoc] at h
  obtain ⟨h1, h2⟩ := List.append_inj h rfl
  have h3 := be4_inj hs ht h1
  have h4 : s.data.toList.length = t.data.toList.length := by simpa using h3
  obtain ⟨h5, h6⟩ := List.append_inj h2 h4
  refine ⟨?_, h6⟩
  cases s; cases t
  simp only at h5
  congr 1
  exact Array.ext' h5

mutual
theorem Val.enc_length : ∀ v : Val, v.enc.length + 4 ≤ 17 * v.mass
  | .mk k bo n t ut ui items names => by
    have h := Val.encs_length (k == 6) items names
    simp only [Val.enc, Val.mass, List.length_cons]
    repeat' split
    all_goals simp only [List.length_append, txt_length, be8_length, be4_length, List.length_cons, List.length_nil]
    all_goals omega
theorem Val.encs_length : ∀ (rc : Bool) (l : List Val) (names : List ByteArray), (Val.encs rc l names).length ≤ 17 * Val.masses l + nameSum names
  | _, [], _ => by simp [Val.encs]
  | rc, v :: r, names => by
    have h1 := Val.enc_length v
    have h2 := Val.encs_length rc r names.tail
    have h3 : (names.headD empty).size + nameSum names.tail ≤ nameSum names := by
      cases names with
      | nil => simp [nameSum, empty]
      | cons s q => simp only [List.headD_cons, List.tail_cons, nameSum, List.map_cons, List.sum_cons]; omega
    simp only [Val.encs, Val.masses, List.length_append]
    split
    · rw [txt_length]; omega
    · simp only [List.length_nil]; omega
end

theorem Val.encs_bound : ∀ {rc : Bool} {l : List Val} {names : List ByteArray} {k : Nat} {x : Val} {nm : ByteArray}, l[k]? = some x → (rc = true → names[k]? = some nm) → (Val.encs rc (l.take k) names).length + (if rc then (txt nm).length else 0) + 17 * x.mass ≤ 17 * (Val.masses l + nameSum names)
  | _, [], _, _, _, _, h, _ => by simp at h
  | rc, y :: r, names, 0, x, nm, h, hn => by
    simp at h; subst h
    simp only [List.take_zero, Val.encs, List.length_nil, Val.masses]
    split
    · rename_i hrc
      have := hn hrc
      cases names with
      | nil => simp at this
      | cons s q => simp at this; subst this; rw [txt_length]; simp only [nameSum, List.map_cons, List.sum_cons]; omega
    · omega
  | rc, y :: r, names, k + 1, x, nm, h, hn => by
    simp only [List.take_succ_cons, Val.encs, List.length_append, Val.masses]
    have h1 := Val.encs_bound (rc := rc) (l := r) (names := names.tail) (k := k) (x := x) (nm := nm) (by simpa using h) (fun e => by
      have := hn e
      cases names with
      | nil => simp at this
      | cons s q => simpa using this)
    have h2 := Val.enc_length y
    cases rc with
    | false =>
      have h3 : nameSum names.tail ≤ nameSum names := by
        cases names with
        | nil => simp
        | cons s q => simp only [List.tail_cons, nameSum, List.map_cons, List.sum_cons]; omega
      simp only [Bool.false_eq_true, if_false, List.length_nil] at h1 ⊢
      omega
    | true =>
      have := hn rfl
      cases names with
      | nil => simp at this
      | cons s q =>
        simp only [if_true, List.headD_cons, List.tail_cons, txt_length, nameSum, List.map_cons, List.sum_cons] at h1 ⊢
        omega

/-! ### the bytes tell the value -/
mutual
/-- small enough for its bytes -/
def Val.Fit : Val → Prop
  | .mk _ _ n t ut ui items names => I64 n ∧ t.size < 4294967296 ∧ ut.size < 4294967296 ∧ ui.size < 4294967296 ∧ items.length < 4294967296 ∧ (∀ s ∈ names, s.size < 4294967296) ∧ Val.Fits items
def Val.Fits : List Val → Prop
  | [] => True
  | v :: r => v.Fit ∧ Val.Fits r
end
theorem Val.fits_iff : ∀ l : List Val, Val.Fits l ↔ ∀ x ∈ l, x.Fit
  | [] => by simp [Val.Fits]
  | x :: r => by simp [Val.Fits, Val.fits_iff r]

theorem kind_byte {k k' : Int} (h : UInt8.ofNat (k % 256).toNat = UInt8.ofNat (k' % 256).toNat) (hk : 0 ≤ k ∧ k ≤ 6) (hk' : 0 ≤ k' ∧ k' ≤ 6) : k = k' := by
  have := byte_inj h
  omega
theorem Val.Is.kind {v : Val} (h : v.Is) : 0 ≤ v.kind ∧ v.kind ≤ 6 := by
  cases v
  unfold Val.Is at h
  simp only [Val.kind]
  rcases h with h | h | h | h | h | h <;> (have := h.1; omega)
mutual
theorem Val.enc_inj : ∀ (a b : Val) (r s : List UInt8), a.Is → b.Is → a.Fit → b.Fit → a.enc ++ r = b.enc ++ s → a = b ∧ r = s
  | .mk k bo n t ut ui items names, .mk k' bo' n' t' ut' ui' items' names', r, s, ha, hb, fa, fb, h => by
    simp only [Val.enc, List.cons_append, List.cons.injEq] at h
    obtain ⟨h0, h⟩ := h
    have hk := kind_byte h0 ha.kind hb.kind
    subst hk
    unfold Val.Fit at fa fb
    obtain ⟨f1, f2, f3, f4, f5, f6, f7⟩ := fa
    obtain ⟨g1, g2, g3, g4, g5, g6, g7⟩ := fb
    unfold Val.Is at ha hb
    rcases ha with ⟨rfl, rfl, rfl, rfl, rfl, rfl, rfl⟩ | ⟨rfl, rfl, rfl, rfl, rfl, rfl, rfl⟩ | ⟨rfl, rfl, rfl, rfl, rfl, rfl, rfl⟩ | ⟨rfl, rfl, rfl, rfl, rfl, rfl⟩ | ⟨rfl, rfl, rfl, rfl, rfl, rfl, rfl, _, _, ha⟩ | ⟨rfl, rfl, rfl, rfl, rfl, rfl, hl, _, _, ha⟩
    · simp only [show ((1 : Int) = 2) = False by decide, show ((1 : Int) = 3) = False by decide, show ((1 : Int) = 4) = False by decide, show ((1 : Int) = 5) = False by decide, show ((1 : Int) = 6) = False by decide, false_and, or_false, true_and] at hb
      obtain ⟨rfl, rfl, rfl, rfl, rfl, rfl⟩ := hb
      simp only [reduceIte, List.cons_append, List.nil_append, List.cons.injEq] at h
      refine ⟨?_, h.2⟩
      have : bo = bo' := by
        have h1 := h.1
        revert h1
        cases bo <;> cases bo' <;> decide
      rw [this]
    · simp only [show ((2 : Int) = 1) = False by decide, show ((2 : Int) = 3) = False by decide, show ((2 : Int) = 4) = False by decide, show ((2 : Int) = 5) = False by decide, show ((2 : Int) = 6) = False by decide, false_and, or_false, true_and, false_or] at hb
      obtain ⟨rfl, rfl, rfl, rfl, rfl, rfl⟩ := hb
      simp only [show ((2 : Int) = 1) = False by decide, if_false, if_true] at h
      obtain ⟨h1, h2⟩ := List.append_inj h rfl
      exact ⟨by rw [bits64_inj f1 g1 (be8_inj (bits64_lt _) (bits64_lt _) h1)], h2⟩
    · simp only [show ((3 : Int) = 1) = False by decide, show ((3 : Int) = 2) = False by decide, show ((3 : Int) = 4) = False by decide, show ((3 : Int) = 5) = False by decide, show ((3 : Int) = 6) = False by decide, false_and, or_false, true_and, false_or] at hb
      obtain ⟨rfl, rfl, rfl, rfl, rfl, rfl⟩ := hb
      simp only [show ((3 : Int) = 1) = False by decide, show ((3 : Int) = 2) = False by decide, if_false, if_true] at h
      obtain ⟨h1, h2⟩ := txt_inj f2 g2 h
      exact ⟨by rw [h1], h2⟩
    · simp only [show ((4 : Int) = 1) = False by decide, show ((4 : Int) = 2) = False by decide, show ((4 : Int) = 3) = False by decide, show ((4 : Int) = 5) = False by decide, show ((4 : Int) = 6) = False by decide, false_and, or_false, true_and, false_or] at hb
      obtain ⟨rfl, rfl, rfl, rfl, rfl⟩ := hb
      simp only [show ((4 : Int) = 1) = False by decide, show ((4 : Int) = 2) = False by decide, show ((4 : Int) = 3) = False by decide, if_false, if_true, List.append_assoc] at h
      obtain ⟨h1, h2⟩ := txt_inj f3 g3 h
      obtain ⟨h3, h4⟩ := txt_inj f4 g4 h2
      exact ⟨by rw [h1, h3], h4⟩
    · simp only [show ((5 : Int) = 1) = False by decide, show ((5 : Int) = 2) = False by decide, show ((5 : Int) = 3) = False by decide, show ((5 : Int) = 4) = False by decide, show ((5 : Int) = 6) = False by decide, false_and, or_false, true_and, false_or] at hb
      obtain ⟨rfl, rfl, rfl, rfl, rfl, rfl, _, _, hb⟩ := hb
      simp only [show ((5 : Int) = 1) = False by decide, show ((5 : Int) = 2) = False by decide, show ((5 : Int) = 3) = False by decide, show ((5 : Int) = 4) = False by decide, if_false, List.append_assoc] at h
      obtain ⟨h1, h2⟩ := List.append_inj h rfl
      have h3 := be4_inj f5 g5 h1
      obtain ⟨h4, _, h5⟩ := Val.encs_inj items items' [] [] false r s h3 (by simp) ha hb f7 g7 (by simp) (by simp) h2
      exact ⟨by rw [h4], h5⟩
    · simp only [show ((6 : Int) = 1) = False by decide, show ((6 : Int) = 2) = False by decide, show ((6 : Int) = 3) = False by decide, show ((6 : Int) = 4) = False by decide, show ((6 : Int) = 5) = False by decide, false_and, true_and, false_or] at hb
      obtain ⟨rfl, rfl, rfl, rfl, rfl, hl', _, _, hb⟩ := hb
      simp only [show ((6 : Int) = 1) = False by decide, show ((6 : Int) = 2) = False by decide, show ((6 : Int) = 3) = False by decide, show ((6 : Int) = 4) = False by decide, if_false, List.append_assoc] at h
      obtain ⟨h1, h2⟩ := List.append_inj h rfl
      have h3 := be4_inj f5 g5 h1
      obtain ⟨h4, h6, h5⟩ := Val.encs_inj items items' names names' true r s h3 (fun _ => ⟨hl, hl'⟩) ha hb f7 g7 f6 g6 h2
      exact ⟨by rw [h4, h6 rfl], h5⟩
theorem Val.encs_inj : ∀ (l m : List Val) (names names' : List ByteArray) (rc : Bool) (r s : List UInt8), l.length = m.length → (rc = true → names.length = l.length ∧ names'.length = m.length) → Val.Are l → Val.Are m → Val.Fits l → Val.Fits m →
    (∀ s ∈ names, s.size < 4294967296) → (∀ s ∈ names', s.size < 4294967296) → Val.encs rc l names ++ r = Val.encs rc m names' ++ s → l = m ∧ (rc = true → names = names') ∧ r = s
  | [], [], names, names', rc, r, s, _, hl, _, _, _, _, _, _, h => by
    refine ⟨rfl, fun e => ?_, by simpa [Val.encs] using h⟩
    obtain ⟨h1, h2⟩ := hl e
    rw [List.eq_nil_of_length_eq_zero h1, List.eq_nil_of_length_eq_zero h2]
  | [], _ :: _, _, _, _, _, _, h, _, _, _, _, _, _, _, _ => by simp at h
  | _ :: _, [], _, _, _, _, _, h, _, _, _, _, _, _, _, _ => by simp at h
  | v :: l, v' :: m, names, names', rc, r, s, hl, hn, ha, hb, fa, fb, sa, sb, h => by
    unfold Val.Are at ha hb
    unfold Val.Fits at fa fb
    cases rc with
    | false =>
      simp only [Val.encs, Bool.false_eq_true, if_false, List.nil_append, List.append_assoc] at h
      obtain ⟨h1, h2⟩ := Val.enc_inj v v' _ _ ha.1 hb.1 fa.1 fb.1 h
      obtain ⟨h3, _, h4⟩ := Val.encs_inj l m names.tail names'.tail false r s (by simpa using hl) (by simp) ha.2 hb.2 fa.2 fb.2 (fun x hx => sa x (List.mem_of_mem_tail hx)) (fun x hx => sb x (List.mem_of_mem_tail hx)) h2
      exact ⟨by rw [h1, h3], by simp, h4⟩
    | true =>
      obtain ⟨n1, n2⟩ := hn rfl
      match names, names', n1, n2 with
      | x :: q, x' :: q', n1, n2 =>
      simp only [Val.encs, if_true, List.headD_cons, List.tail_cons, List.append_assoc] at h
      obtain ⟨h5, h6⟩ := txt_inj (sa x (by simp)) (sb x' (by simp)) h
      obtain ⟨h1, h2⟩ := Val.enc_inj v v' _ _ ha.1 hb.1 fa.1 fb.1 h6
      obtain ⟨h3, h7, h4⟩ := Val.encs_inj l m q q' true r s (by simpa using hl) (fun _ => ⟨by simpa using n1, by simpa using n2⟩) ha.2 hb.2 fa.2 fb.2 (fun y hy => sa y (by simp [hy])) (fun y hy => sb y (by simp [hy])) h2
      exact ⟨by rw [h1, h3], fun _ => by rw [h5, h7 rfl], h4⟩
end
end Go.Proofs.Ytpkgkabcikmopaa
