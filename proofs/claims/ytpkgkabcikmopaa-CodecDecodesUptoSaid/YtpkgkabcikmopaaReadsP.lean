/-
  What reading bytes comes to, as plain data: the value whose bytes they begin with. No program in sight. The conditions: none (definitions and lemmas).
-/
import Derived.Test.YtpkgkabcikmopaaReader
namespace Go.Proofs.Ytpkgkabcikmopaa
open Go.RowKit

def ReadsN (n : Nat) (bs : List UInt8) (bad : Bool) (x : Nat) (bs' : List UInt8) (bad' : Bool) : Prop :=
  (bad = true → bad' = true) ∧ bs'.length ≤ bs.length ∧ (bad' = false → bs'.length + n = bs.length) ∧ x < 256 ^ n ∧ ∀ (l rest : List UInt8), l.length = n → bs = l ++ rest → bad = false → x = beNat l ∧ bs' = rest ∧ bad' = false
def ReadsT (bs : List UInt8) (bad : Bool) (s : ByteArray) (bs' : List UInt8) (bad' : Bool) : Prop :=
  (bad = true → bad' = true) ∧ bs'.length ≤ bs.length ∧ s.size ≤ bs.length ∧ (bad' = false → bs'.length + 4 + s.size = bs.length) ∧ ∀ (t : ByteArray) (rest : List UInt8), t.size < 4294967296 → bs = txt t ++ rest → bad = false → s = t ∧ bs' = rest ∧ bad' = false
def Reads (bs : List UInt8) (bad : Bool) (m : Nat) (v : Val) (bs' : List UInt8) (bad' : Bool) : Prop :=
  (bad = true → bad' = true) ∧ bs'.length ≤ bs.length ∧ (bad' = false → bs'.length + v.mass ≤ bs.length) ∧ v.dep ≤ m + 1 ∧ ∀ (c : Val) (rest : List UInt8), c.Is → c.Fit → c.dep ≤ m → bs = c.enc ++ rest → bad = false → v = c ∧ bs' = rest ∧ bad' = false

theorem ReadsN.good {n : Nat} {bs bs' : List UInt8} {bad bad' : Bool} {x : Nat} (h : ReadsN n bs bad x bs' bad') (h0 : bad' = false) : bad = false := by
  cases bad with
  | false => rfl
  | true => rw [h.1 rfl] at h0; cases h0
theorem ReadsT.good {bs bs' : List UInt8} {bad bad' : Bool} {s : ByteArray} (h : ReadsT bs bad s bs' bad') (h0 : bad' = false) : bad = false := by
  cases bad with
  | false => rfl
  | true => rw [h.1 rfl] at h0; cases h0
theorem Reads.good {m : Nat} {bs bs' : List UInt8} {bad bad' : Bool} {v : Val} (h : Reads bs bad m v bs' bad') (h0 : bad' = false) : bad = false := by
  cases bad with
  | false => rfl
  | true => rw [h.1 rfl] at h0; cases h0

/-! ### what is as it must be, by its kind -/
theorem Val.Is.cases {c : Val} (h : c.Is) : (∃ bo, c = .mk 1 bo 0 empty empty empty [] []) ∨ (∃ n, c = .mk 2 false n empty empty empty [] []) ∨ (∃ t, c = .mk 3 false 0 t empty empty [] []) ∨ (∃ ut ui, c = .mk 4 false 0 empty ut ui [] []) ∨
    (∃ items, c = .mk 5 false 0 empty empty empty items [] ∧ Val.Are items) ∨ (∃ items names, c = .mk 6 false 0 empty empty empty items names ∧ names.length = items.length ∧ Val.Are items) := by
  cases c
  unfold Val.Is at h
  rcases h with ⟨rfl, rfl, rfl, rfl, rfl, rfl, rfl⟩ | ⟨rfl, rfl, rfl, rfl, rfl, rfl, rfl⟩ | ⟨rfl, rfl, rfl, rfl, rfl, rfl, rfl⟩ | ⟨rfl, rfl, rfl, rfl, rfl, rfl⟩ | ⟨rfl, rfl, rfl, rfl, rfl, rfl, rfl, _, _, ha⟩ | ⟨rfl, rfl, rfl, rfl, rfl, rfl, hl, _, _, ha⟩
  · exact .inl ⟨_, rfl⟩
  · exact .inr (.inl ⟨_, rfl⟩)
  · exact .inr (.inr (.inl ⟨_, rfl⟩))
  · exact .inr (.inr (.inr (.inl ⟨_, _, rfl⟩)))
  · exact .inr (.inr (.inr (.inr (.inl ⟨_, rfl, ha⟩))))
  · exact .inr (.inr (.inr (.inr (.inr ⟨_, _, rfl, hl, ha⟩))))
theorem Val.Is.head {c : Val} (h : c.Is) : ∃ (b : UInt8) (tl : List UInt8), c.enc = b :: tl ∧ (b.toNat : Int) = c.kind ∧ 1 ≤ c.kind ∧ c.kind ≤ 6 := by
  rcases h.cases with ⟨_, rfl⟩ | ⟨_, rfl⟩ | ⟨_, rfl⟩ | ⟨_, _, rfl⟩ | ⟨_, rfl, _⟩ | ⟨_, _, rfl, _⟩
  · exact ⟨1, _, Val.enc_1 .., rfl, by simp [Val.kind], by simp [Val.kind]⟩
  · exact ⟨2, _, Val.enc_2 .., rfl, by simp [Val.kind], by simp [Val.kind]⟩
  · exact ⟨3, _, Val.enc_3 .., rfl, by simp [Val.kind], by simp [Val.kind]⟩
  · exact ⟨4, _, Val.enc_4 .., rfl, by simp [Val.kind], by simp [Val.kind]⟩
  · exact ⟨5, _, Val.enc_5 .., rfl, by simp [Val.kind], by simp [Val.kind]⟩
  · exact ⟨6, _, Val.enc_6 .., rfl, by simp [Val.kind], by simp [Val.kind]⟩
theorem beNat_one (b : UInt8) : beNat [b] = b.toNat := by simp [beNat]
/-- the kind that was read -/
theorem ReadsN.kind {bs bs1 : List UInt8} {bad bad1 : Bool} {kd : Nat} (h : ReadsN 1 bs bad kd bs1 bad1) {c : Val} {rest : List UInt8} (hc : c.Is) (hb : bs = c.enc ++ rest) (h0 : bad = false) : (kd : Int) = c.kind ∧ bad1 = false ∧ bs1 = c.enc.tail ++ rest ∧ 1 ≤ c.kind ∧ c.kind ≤ 6 := by
  obtain ⟨b, tl, e, hk, h1, h2⟩ := hc.head
  obtain ⟨e1, e2, e3⟩ := h.2.2.2.2 [b] (tl ++ rest) rfl (by rw [hb, e]; rfl) h0
  refine ⟨by rw [e1, beNat_one, hk], e3, by rw [e2, e]; rfl, h1, h2⟩

section
variable {bs bs1 bs2 bs3 : List UInt8} {bad bad1 bad2 bad3 : Bool} {m kd : Nat}
theorem reads_1 (h : ReadsN 1 bs bad 1 bs1 bad1) {y : Nat} (k : ReadsN 1 bs1 bad1 y bs2 bad2) : Reads bs bad m (.mk 1 ((y : Int) == 1) 0 empty empty empty [] []) bs2 bad2 := by
  refine ⟨fun e => k.1 (h.1 e), Nat.le_trans k.2.1 h.2.1, fun e => ?_, by simp [Val.dep], fun c rest hc hf hd hb h0 => ?_⟩
  · have := k.2.2.1 e
    have := h.2.2.1 (k.good e)
    simp [Val.mass, Val.masses, nameSum, empty]; omega
  · obtain ⟨e1, e2, e3, _⟩ := h.kind hc hb h0
    rcases hc.cases with ⟨bo, rfl⟩ | ⟨_, rfl⟩ | ⟨_, rfl⟩ | ⟨_, _, rfl⟩ | ⟨_, rfl, _⟩ | ⟨_, _, rfl, _⟩ <;> simp [Val.kind] at e1
    rw [Val.enc_1] at e3
    obtain ⟨f1, f2, f3⟩ := k.2.2.2.2 [if bo then 1 else 0] rest rfl (by rw [e3]; rfl) e2
    rw [beNat_one] at f1
    refine ⟨?_, f2, f3⟩
    cases bo <;> simp at f1 <;> subst f1 <;> rfl
theorem reads_2 (h : ReadsN 1 bs bad 2 bs1 bad1) {y : Nat} (k : ReadsN 8 bs1 bad1 y bs2 bad2) : Reads bs bad m (.mk 2 false (wrap64 y) empty empty empty [] []) bs2 bad2 := by
  refine ⟨fun e => k.1 (h.1 e), Nat.le_trans k.2.1 h.2.1, fun e => ?_, by simp [Val.dep], fun c rest hc hf hd hb h0 => ?_⟩
  · have := k.2.2.1 e
    have := h.2.2.1 (k.good e)
    simp [Val.mass, Val.masses, nameSum, empty]; omega
  · obtain ⟨e1, e2, e3, _⟩ := h.kind hc hb h0
    rcases hc.cases with ⟨_, rfl⟩ | ⟨n, rfl⟩ | ⟨_, rfl⟩ | ⟨_, _, rfl⟩ | ⟨_, rfl, _⟩ | ⟨_, _, rfl, _⟩ <;> simp [Val.kind] at e1
    rw [Val.enc_2] at e3
    obtain ⟨f1, f2, f3⟩ := k.2.2.2.2 (be8 (bits64 n)) rest rfl (by rw [e3]; rfl) e2
    rw [beNat_be8 (bits64_lt n)] at f1
    refine ⟨?_, f2, f3⟩
    unfold Val.Fit at hf
    have hi := hf.1
    unfold I64 at hi
    have : wrap64 (y : Int) = n := by
      rw [f1]
      unfold bits64 wrap64
      omega
    rw [this]
theorem reads_3 (h : ReadsN 1 bs bad 3 bs1 bad1) {s : ByteArray} (k : ReadsT bs1 bad1 s bs2 bad2) : Reads bs bad m (.mk 3 false 0 s empty empty [] []) bs2 bad2 := by
  refine ⟨fun e => k.1 (h.1 e), Nat.le_trans k.2.1 h.2.1, fun e => ?_, by simp [Val.dep], fun c rest hc hf hd hb h0 => ?_⟩
  · have := k.2.2.2.1 e
    have := h.2.2.1 (k.good e)
    simp [Val.mass, Val.masses, nameSum, empty]; omega
  · obtain ⟨e1, e2, e3, _⟩ := h.kind hc hb h0
    rcases hc.cases with ⟨_, rfl⟩ | ⟨_, rfl⟩ | ⟨t, rfl⟩ | ⟨_, _, rfl⟩ | ⟨_, rfl, _⟩ | ⟨_, _, rfl, _⟩ <;> simp [Val.kind] at e1
    rw [Val.enc_3] at e3
    unfold Val.Fit at hf
    obtain ⟨f1, f2, f3⟩ := k.2.2.2.2 t rest hf.2.1 (by rw [e3]; rfl) e2
    exact ⟨by rw [f1], f2, f3⟩
theorem reads_4 (h : ReadsN 1 bs bad 4 bs1 bad1) {s s' : ByteArray} (k : ReadsT bs1 bad1 s bs2 bad2) (k' : ReadsT bs2 bad2 s' bs3 bad3) : Reads bs bad m (.mk 4 false 0 empty s s' [] []) bs3 bad3 := by
  refine ⟨fun e => k'.1 (k.1 (h.1 e)), Nat.le_trans k'.2.1 (Nat.le_trans k.2.1 h.2.1), fun e => ?_, by simp [Val.dep], fun c rest hc hf hd hb h0 => ?_⟩
  · have h2 := k'.2.2.2.1 e
    have h3 := k.2.2.2.1 (k'.good e)
    have h4 := h.2.2.1 (k.good (k'.good e))
    simp [Val.mass, Val.masses, nameSum, empty]; omega
  · obtain ⟨e1, e2, e3, _⟩ := h.kind hc hb h0
    rcases hc.cases with ⟨_, rfl⟩ | ⟨_, rfl⟩ | ⟨_, rfl⟩ | ⟨ut, ui, rfl⟩ | ⟨_, rfl, _⟩ | ⟨_, _, rfl, _⟩ <;> simp [Val.kind] at e1
    rw [Val.enc_4] at e3
    unfold Val.Fit at hf
    obtain ⟨f1, f2, f3⟩ := k.2.2.2.2 ut (txt ui ++ rest) hf.2.2.1 (by rw [e3]; simp) e2
    obtain ⟨g1, g2, g3⟩ := k'.2.2.2.2 ui rest hf.2.2.2.1 f2 f3
    exact ⟨by rw [f1, g1], g2, g3⟩
theorem reads_none (h : ReadsN 1 bs bad kd bs1 bad1) (hk : ¬ (1 ≤ kd ∧ kd ≤ 6)) {v : Val} (hd : v.dep ≤ m + 1) : Reads bs bad m v bs1 true := by
  refine ⟨fun _ => rfl, h.2.1, fun e => (by cases e), hd, fun c rest hc hf hd hb h0 => ?_⟩
  obtain ⟨e1, _, _, e4, e5⟩ := h.kind hc hb h0
  omega
theorem reads_deep (h : bs1.length ≤ bs.length) {v : Val} (hd : v.dep ≤ 1) : Reads bs bad 0 v bs1 true := by
  refine ⟨fun _ => rfl, h, fun e => (by cases e), hd, fun c rest hc hf hd hb h0 => ?_⟩
  have : 1 ≤ c.dep := by cases c; simp only [Val.dep]; split <;> omega
  omega
end

/-! ### rows -/
/-- what has been read of a row -/
def ReadsL (rc : Bool) (bs : List UInt8) (bad : Bool) (m : Nat) (L : List Val) (M : List ByteArray) (n : Nat) (bs' : List UInt8) (bad' : Bool) : Prop :=
  (bad = true → bad' = true) ∧ bs'.length ≤ bs.length ∧ (bad' = false → bs'.length + 5 + Val.masses L + nameSum M ≤ bs.length) ∧ Val.deps L ≤ m ∧ (rc = true → M.length = L.length) ∧ (rc = false → M = []) ∧
    ∀ (c : Val) (rest : List UInt8), c.Is → c.Fit → c.dep ≤ m → c.kind = (if rc then 6 else 5) → bs = c.enc ++ rest → bad = false → ∃ zs ns, c.items = L ++ zs ∧ c.names = M ++ ns ∧ (rc = true → ns.length = zs.length) ∧ n = zs.length ∧ bs' = Val.encs rc zs ns ++ rest ∧ bad' = false
theorem Val.deps_snoc {x : Val} {m : Nat} : ∀ {l : List Val}, Val.deps l ≤ m → x.dep ≤ m → Val.deps (l ++ [x]) ≤ m
  | [], _, h => by simpa [Val.deps] using h
  | y :: r, h, hx => by
    simp only [List.cons_append, Val.deps] at h ⊢
    have := Val.deps_snoc (l := r) (x := x) (m := m) (by omega) hx
    omega
theorem Val.masses_snoc (x : Val) : ∀ l : List Val, Val.masses (l ++ [x]) = Val.masses l + x.mass
  | [] => by simp [Val.masses]
  | y :: r => by simp only [List.cons_append, Val.masses, Val.masses_snoc x r]; omega
theorem nameSum_snoc (s : ByteArray) (l : List ByteArray) : nameSum (l ++ [s]) = nameSum l + (s.size + 1) := by simp [nameSum]

section
variable {rc : Bool} {bs bs1 bs2 bs3 bs4 : List UInt8} {bad bad1 bad2 bad3 bad4 : Bool} {m n : Nat} {L : List Val} {M : List ByteArray}
theorem ReadsL.start (h : ReadsN 1 bs bad (if rc then 6 else 5) bs1 bad1) {n : Nat} (k : ReadsN 4 bs1 bad1 n bs2 bad2) : ReadsL rc bs bad m [] [] n bs2 bad2 := by
  refine ⟨fun e => k.1 (h.1 e), Nat.le_trans k.2.1 h.2.1, fun e => ?_, by simp [Val.deps], fun _ => rfl, fun _ => rfl, fun c rest hc hf hd hk hb h0 => ?_⟩
  · have := k.2.2.1 e
    have := h.2.2.1 (k.good e)
    simp [Val.masses, nameSum]; omega
  · obtain ⟨e1, e2, e3, _⟩ := h.kind hc hb h0
    rcases hc.cases with ⟨_, rfl⟩ | ⟨_, rfl⟩ | ⟨_, rfl⟩ | ⟨_, _, rfl⟩ | ⟨items, rfl, ha⟩ | ⟨items, names, rfl, hl, ha⟩
    · cases rc <;> simp [Val.kind] at hk
    · cases rc <;> simp [Val.kind] at hk
    · cases rc <;> simp [Val.kind] at hk
    · cases rc <;> simp [Val.kind] at hk
    · cases rc <;> simp [Val.kind] at hk
      rw [Val.enc_5] at e3
      unfold Val.Fit at hf
      obtain ⟨f1, f2, f3⟩ := k.2.2.2.2 (be4 items.length) (Val.encs false items [] ++ rest) rfl (by rw [e3]; simp) e2
      rw [beNat_be4 hf.2.2.2.2.1] at f1
      exact ⟨items, [], rfl, rfl, fun e => (by cases e), f1, f2, f3⟩
    · cases rc <;> simp [Val.kind] at hk
      rw [Val.enc_6] at e3
      unfold Val.Fit at hf
      obtain ⟨f1, f2, f3⟩ := k.2.2.2.2 (be4 items.length) (Val.encs true items names ++ rest) rfl (by rw [e3]; simp) e2
      rw [beNat_be4 hf.2.2.2.2.1] at f1
      exact ⟨items, names, rfl, rfl, fun _ => hl, f1, f2, f3⟩
theorem dep_item {c x : Val} {L zs : List Val} (h : c.items = L ++ x :: zs) (hk : c.kind = 5 ∨ c.kind = 6) : x.dep + 1 ≤ c.dep := by
  cases c with
  | mk k bo n t ut ui items names =>
    simp only [Val.items] at h
    simp only [Val.kind] at hk
    subst h
    have := Val.deps_mem (x := x) (l := L ++ x :: zs) (by simp)
    simp only [Val.dep]
    rw [if_pos hk]; omega
theorem fit_item {c x : Val} {L zs : List Val} (h : c.items = L ++ x :: zs) (hf : c.Fit) : x.Fit := by
  cases c with
  | mk k bo n t ut ui items names =>
    simp only [Val.items] at h
    unfold Val.Fit at hf
    subst h
    exact (Val.fits_iff _).1 hf.2.2.2.2.2.2 x (by simp)
theorem is_item {c x : Val} {L zs : List Val} (h : c.items = L ++ x :: zs) (hc : c.Is) : x.Is := by
  rcases hc.cases with ⟨_, rfl⟩ | ⟨_, rfl⟩ | ⟨_, rfl⟩ | ⟨_, _, rfl⟩ | ⟨items, rfl, ha⟩ | ⟨items, names, rfl, _, ha⟩
  · simp [Val.items] at h
  · simp [Val.items] at h
  · simp [Val.items] at h
  · simp [Val.items] at h
  · simp only [Val.items] at h; subst h; exact (Val.are_iff _).1 ha x (by simp)
  · simp only [Val.items] at h; subst h; exact (Val.are_iff _).1 ha x (by simp)
/-- one more, of a set -/
theorem ReadsL.set (h : ReadsL false bs bad m L M (n + 1) bs1 bad1) (hb1 : bad1 = false) {x : Val} (hm : 0 < m) (k : Reads bs1 bad1 (m - 1) x bs2 bad2) : ReadsL false bs bad m (L ++ [x]) M n bs2 bad2 := by
  obtain ⟨h1, h2, h3, h4, h5, h6, h7⟩ := h
  have hM := h6 rfl
  subst hM
  refine ⟨fun e => k.1 (h1 e), Nat.le_trans k.2.1 h2, fun e => ?_, Val.deps_snoc h4 (by have := k.2.2.2.1; omega), fun e => (by cases e), fun _ => rfl, fun c rest hc hf hd hk hb h0 => ?_⟩
  · have := k.2.2.1 e
    have := h3 hb1
    rw [Val.masses_snoc]; omega
  · obtain ⟨zs, ns, e1, e2, e3, e4, e5, e6⟩ := h7 c rest hc hf hd hk hb h0
    cases zs with
    | nil => simp at e4
    | cons z zs =>
      have hk' : c.kind = 5 ∨ c.kind = 6 := .inl hk
      simp only [Val.encs, Bool.false_eq_true, if_false, List.nil_append, List.append_assoc] at e5
      obtain ⟨f1, f2, f3⟩ := k.2.2.2.2 z _ (is_item e1 hc) (fit_item e1 hf) (by have := dep_item e1 hk'; omega) e5 e6
      subst f1
      exact ⟨zs, ns.tail, by rw [e1]; simp, by rw [e2]; simp at e2 ⊢; rcases hc.cases with ⟨_, rfl⟩ | ⟨_, rfl⟩ | ⟨_, rfl⟩ | ⟨_, _, rfl⟩ | ⟨_, rfl, _⟩ | ⟨_, _, rfl, _⟩ <;> simp [Val.names, Val.kind] at e2 hk <;> simp [e2], fun e => (by cases e), by simpa using e4, f2, f3⟩
/-- one more, of a record -/
theorem ReadsL.field (h : ReadsL true bs bad m L M (n + 1) bs1 bad1) (hb1 : bad1 = false) {s : ByteArray} {x : Val} (hm : 0 < m) (t : ReadsT bs1 bad1 s bs2 bad2) (k : Reads bs2 bad2 (m - 1) x bs3 bad3) : ReadsL true bs bad m (L ++ [x]) (M ++ [s]) n bs3 bad3 := by
  obtain ⟨h1, h2, h3, h4, h5, h6, h7⟩ := h
  refine ⟨fun e => k.1 (t.1 (h1 e)), Nat.le_trans k.2.1 (Nat.le_trans t.2.1 h2), fun e => ?_, Val.deps_snoc h4 (by have := k.2.2.2.1; omega), fun _ => by simp [h5 rfl], fun e => (by cases e), fun c rest hc hf hd hk hb h0 => ?_⟩
  · have := k.2.2.1 e
    have := t.2.2.2.1 (k.good e)
    have := h3 hb1
    rw [Val.masses_snoc, nameSum_snoc]; omega
  · obtain ⟨zs, ns, e1, e2, e3, e4, e5, e6⟩ := h7 c rest hc hf hd hk hb h0
    have e3 := e3 rfl
    cases zs with
    | nil => simp at e4
    | cons z zs =>
      cases ns with
      | nil => simp at e3
      | cons nm ns =>
        have hk' : c.kind = 5 ∨ c.kind = 6 := .inr hk
        simp only [Val.encs, if_true, List.headD_cons, List.tail_cons, List.append_assoc] at e5
        have hs : nm.size < 4294967296 := by
          cases c with
          | mk k' bo n' t' ut ui items names =>
            simp only [Val.names] at e2
            unfold Val.Fit at hf
            exact hf.2.2.2.2.2.1 nm (by rw [e2]; simp)
        obtain ⟨g1, g2, g3⟩ := t.2.2.2.2 nm _ hs e5 e6
        obtain ⟨f1, f2, f3⟩ := k.2.2.2.2 z _ (is_item e1 hc) (fit_item e1 hf) (by have := dep_item e1 hk'; omega) g2 g3
        subst f1 g1
        exact ⟨zs, ns, by rw [e1]; simp, by rw [e2]; simp, fun _ => by simpa using e3, by simpa using e4, f2, f3⟩
/-- in the end -/
theorem ReadsL.done {bs0 : List UInt8} {bad0 : Bool} (hkd : ReadsN 1 bs bad (if rc then 6 else 5) bs0 bad0) (h : ReadsL rc bs bad m L M n bs1 bad1) (hend : n = 0 ∨ bad1 = true) : Reads bs bad m (.mk (if rc then 6 else 5) false 0 empty empty empty L M) bs1 bad1 := by
  obtain ⟨h1, h2, h3, h4, h5, h6, h7⟩ := h
  refine ⟨h1, h2, fun e => ?_, ?_, fun c rest hc hf hd hb h0 => ?_⟩
  · have := h3 e
    simp [Val.mass, empty]; omega
  · cases rc <;> simp [Val.dep] <;> omega
  · obtain ⟨e1, _⟩ := hkd.kind hc hb h0
    have hk : c.kind = (if rc then 6 else 5) := by rw [← e1]; cases rc <;> rfl
    obtain ⟨zs, ns, f1, f2, f3, f4, f5, f6⟩ := h7 c rest hc hf hd hk hb h0
    have hn : n = 0 := by
      rcases hend with h | h
      · exact h
      · rw [f6] at h; cases h
    have hz : zs = [] := List.eq_nil_of_length_eq_zero (by omega)
    subst hz
    have hns : ns = [] := by
      cases rc with
      | true => exact List.eq_nil_of_length_eq_zero (f3 rfl)
      | false =>
        rcases hc.cases with ⟨_, rfl⟩ | ⟨_, rfl⟩ | ⟨_, rfl⟩ | ⟨_, _, rfl⟩ | ⟨_, rfl, _⟩ | ⟨_, _, rfl, _⟩ <;> simp [Val.kind, Val.names] at hk f2
        exact f2.2
    subst hns
    refine ⟨?_, by rw [f5]; simp [Val.encs], f6⟩
    rw [List.append_nil] at f1 f2
    rcases hc.cases with ⟨_, rfl⟩ | ⟨_, rfl⟩ | ⟨_, rfl⟩ | ⟨_, _, rfl⟩ | ⟨_, rfl, _⟩ | ⟨_, _, rfl, _⟩ <;> cases rc <;> simp [Val.kind, Val.names, Val.items] at hk f1 f2 ⊢
    · exact ⟨f1.symm, f2⟩
    · exact ⟨f1.symm, f2.symm⟩
end

theorem numberN_ok (lim g n : Nat) (w : World) (bs : List UInt8) (bad : Bool) (h : RdAt lim w g bs bad) (hn : n ≤ 8) : Calls Try.prog 87 #[.pointer (some ⟨g, 0, none⟩), .int .i64 n] w fun e w' => GrownBy w w' (some g) ∧ ∃ (x : Nat) (bs' : List UInt8) (bad' : Bool), e = .returned (.int .u64 x) ∧ RdAt lim w' g bs' bad' ∧ ReadsN n bs bad x bs' bad' := by
  refine (number_okP lim g n w bs bad h hn).mono ?_
  rintro e w' ⟨hg, ⟨hle, rfl, hrd⟩ | ⟨hlt, rfl, hrd⟩⟩
  · refine ⟨hg, _, _, _, rfl, hrd, fun e => e, by simp, fun _ => by simp; omega, ?_, fun l rest hl hb h0 => ?_⟩
    · have := beNat_lt (bs.take n)
      rwa [List.length_take, Nat.min_eq_left hle] at this
    · subst hb
      rw [List.take_left' hl, List.drop_left' hl]
      exact ⟨rfl, rfl, h0⟩
  · refine ⟨hg, 0, _, _, rfl, hrd, fun _ => rfl, by simp, fun e => (by cases e), Nat.pow_pos (by omega), fun l rest hl hb h0 => ?_⟩
    subst hb
    rw [List.length_append] at hlt
    omega
theorem textT_ok (lim g : Nat) (w : World) (bs : List UInt8) (bad : Bool) (h : RdAt lim w g bs bad) (hl : bs.length ≤ 65536) : Calls Try.prog 88 #[.pointer (some ⟨g, 0, none⟩)] w fun e w' => GrownBy w w' (some g) ∧ ∃ (s : ByteArray) (bs' : List UInt8) (bad' : Bool), e = .returned (.string s) ∧ RdAt lim w' g bs' bad' ∧ ReadsT bs bad s bs' bad' :=
  (text_okRd lim g w bs bad h hl).mono fun _ _ h => h
end Go.Proofs.Ytpkgkabcikmopaa
