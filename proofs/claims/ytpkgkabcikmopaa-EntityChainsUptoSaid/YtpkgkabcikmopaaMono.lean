/-
  A statement whose order Go leaves open and whose operations make or write memory: each operation is shown by itself, from what those before it leave; then a tail in a forced order. The conditions: none (lemmas on the model).
-/
import Derived.Test.YtpkgkabcikmopaaQuiet
namespace Go.Proofs.Ytpkgkabcikmopaa
open Go.RowKit

/-- the slots of some operations, filled -/
def putAll : Act → List Oper → List Value → Act
  | a, o :: r, x :: s => putAll (a.put o.dst x) r s
  | a, _, _ => a

def dstsApart : List Oper → Bool
  | [] => true
  | o :: r => (match o.dst with | none => true | some d => r.all fun p => p.dst != some d) && dstsApart r

theorem putAll_put {o : Oper} {v : Value} : ∀ (l : List Oper) (xs : List Value) (a : Act), (∀ d, o.dst = some d → ∀ p ∈ l, p.dst ≠ some d) → putAll (a.put o.dst v) l xs = (putAll a l xs).put o.dst v
  | [], _, _, _ => by simp [putAll]
  | p :: r, [], _, _ => by simp [putAll]
  | p :: r, x :: s, a, h => by
    simp only [putAll]
    rw [Act.put_comm a v x fun d hd => h d hd p (by simp), putAll_put r s _ fun d hd q hq => h d hd q (by simp [hq])]

theorem Act.put_put (a : Act) (d : Option Tmp) (u v : Value) : (a.put d u).put d v = a.put d v := by
  cases d <;> simp [Act.put]

theorem putAll_set {v : Value} : ∀ (l : List Oper) (xs : List Value) (a : Act) (i : Nat) (o : Oper), dstsApart l = true → l[i]? = some o → xs.length = l.length → (putAll a l xs).put o.dst v = putAll a l (xs.set i v)
  | [], _, _, i, _, _, h, _ => by simp at h
  | p :: r, [], _, i, _, _, _, h => by simp at h
  | p :: r, x :: s, a, 0, o, hd, h, hl => by
    simp at h; subst h
    simp only [dstsApart, Bool.and_eq_true] at hd
    simp only [putAll, List.set_cons_zero]
    rw [← putAll_put r s _ fun d hdd q hq => ?_, Act.put_put]
    rw [hdd] at hd
    simpa using List.all_eq_true.1 hd.1 q hq
  | p :: r, x :: s, a, i + 1, o, hd, h, hl => by
    simp only [dstsApart, Bool.and_eq_true] at hd
    simp only [putAll, List.set_cons_succ]
    exact putAll_set r s _ i o hd.2 (by simpa using h) (by simpa using hl)

/-- the slots as they are -/
def slotsOf (a : Act) (l : List Oper) : List Value := l.map fun o => match o.dst with | some d => a.tmps.getD d undef | none => undef

theorem Act.put_self (a : Act) (d : Tmp) : a.put (some d) (a.tmps.getD d undef) = a := by
  cases a with
  | mk t df =>
    simp only [Act.put]
    congr 1
    apply Array.ext_getElem?
    intro i
    rw [Array.getElem?_setIfInBounds]
    split
    · rename_i h; subst h
      split
      · rename_i h; simp [h]
      · rename_i h; simp [h]
    · rfl

theorem putAll_slots (a : Act) : ∀ l : List Oper, putAll a l (slotsOf a l) = a
  | [] => rfl
  | o :: r => by
    simp only [slotsOf, List.map_cons, putAll]
    have : a.put o.dst (match o.dst with | some d => a.tmps.getD d undef | none => undef) = a := by
      cases hd : o.dst with
      | none => rfl
      | some d => exact Act.put_self a d
    rw [this]
    exact putAll_slots a r

/-- is j among those that i waits for -/
def waits (l : List Oper) (i j : Nat) : Bool := match l[i]? with
  | some o => o.after.any fun e => Region.binds .any e && e.on == j
  | none => false

/-- the first n, and no other -/
def headDone (n m : Nat) : Array Bool := (List.replicate n true ++ List.replicate (m - n) false).toArray

def monoB (l : List Oper) (n : Nat) : Bool :=
  decide (n ≤ l.length) && dstsApart (l.take n) && (l.take n).zipIdx.all (fun (o, i) => o.after.all fun e => !Region.binds .any e || decide (e.on < i)) &&
  (decide (n = l.length) || (decide (n < l.length) && Region.sinkB .any l.toArray n && Region.chainB .any l.toArray n)) && Region.seqB .any l.toArray (l.length - n) n (headDone n l.length)

section
variable {P : Program} {l : List Oper} {n : Nat} {a0 : Act} {Inv : World → Prop} {T : Nat → World → World → Prop} {Pre : Nat → World → Prop} {Φ : Nat → Value → World → Prop}

/-- one operation, by itself -/
def StepOK (P : Program) (l : List Oper) (n : Nat) (a0 : Act) (Inv : World → Prop) (T : Nat → World → World → Prop) (Pre : Nat → World → Prop) (Φ : Nat → Value → World → Prop) (i : Nat) (o : Oper) : Prop :=
  ∀ (xs : List Value) (w : World), xs.length = n → Inv w → Pre i w → (∀ j, j < n → waits l i j = true → Φ j (xs.getD j undef) w) →
    ∀ (Q : Exit → Act → World → Prop) (K : Act → World → Prop), (∀ v w', Φ i v w' → T i w w' → Inv w' → K ((putAll a0 (l.take n) xs).put o.dst v) w') →
      if Region.wanted o (yielded l.toArray (putAll a0 (l.take n) xs).tmps) then o.wp P (putAll a0 (l.take n) xs) w K Q else K ((putAll a0 (l.take n) xs).put o.dst undef) w

def unlisted (n : Nat) (listed : Array Bool) : Nat := (List.range n).countP fun i => !listed.getD i true

theorem unlisted_set {n i : Nat} {listed : Array Bool} (hi : i < n) (h : listed.getD i true = false) : unlisted n listed = unlisted n (listed.setIfInBounds i true) + 1 := by
  have hlt : i < listed.size := by
    rcases Nat.lt_or_ge i listed.size with h' | h'
    · exact h'
    · rw [Array.getD_eq_getD_getElem?, Array.getElem?_eq_none h'] at h; simp at h
  have key : ∀ m, (List.range m).countP (fun j => !listed.getD j true) = (List.range m).countP (fun j => !(listed.setIfInBounds i true).getD j true) + if i < m then 1 else 0 := by
    intro m
    induction m with
    | zero => simp
    | succ m ih =>
      rw [List.range_succ, List.countP_append, List.countP_append, ih]
      by_cases hm : m = i
      · subst hm
        have h2 : (listed.setIfInBounds m true).getD m true = true := by simp [hlt]
        simp only [List.countP_singleton, h, h2]
        simp
      · rw [show List.countP (fun j => !listed.getD j true) [m] = List.countP (fun j => !(listed.setIfInBounds i true).getD j true) [m] by
          simp only [List.countP_singleton, getD_set_ne true (Ne.symm hm)]]
        by_cases hmi : i < m
        · rw [if_pos hmi, if_pos (by omega)]; omega
        · rw [if_neg hmi, if_neg (by omega)]; omega
  have := key n
  rw [if_pos hi] at this
  exact this

theorem mono_any (hB : monoB l n = true)
    (hstep : ∀ i o, i < n → l[i]? = some o → StepOK P l n a0 Inv T Pre Φ i o)
    (hpre : ∀ i j w w', i < n → j < n → i ≠ j → waits l j i = false → Inv w → T j w w' → Pre i w → Pre i w')
    (hphi : ∀ i j v w w', i < n → j < n → i ≠ j → waits l i j = false → Inv w → T j w w' → Φ i v w → Φ i v w')
    (hun : ∀ i o xs w, i < n → l[i]? = some o → xs.length = n → Region.wanted o (yielded l.toArray (putAll a0 (l.take n) xs).tmps) = false → Inv w → Pre i w → (∀ j, j < n → waits l i j = true → Φ j (xs.getD j undef) w) → Φ i undef w ∧ T i w w)
    {Q : Exit → Act → World → Prop}
    (hQ : ∀ xs w, xs.length = n → Inv w → (∀ i, i < n → Φ i (xs.getD i undef) w) → wpList P l.toArray Q (l.drop n) (putAll a0 (l.take n) xs) w) :
    ∀ (k : Nat) (listed : Array Bool) (xs : List Value) (w : World), unlisted n listed = k → HeadInv .any l.toArray n listed → xs.length = n → Inv w →
      (∀ i, i < n → listed.getD i true = true → Φ i (xs.getD i undef) w) → (∀ i, i < n → listed.getD i true = false → Pre i w) →
      wpAny P .any l.toArray Q (k + (l.length - n)) listed (putAll a0 (l.take n) xs) w := by
  simp only [monoB, Bool.and_eq_true, Bool.or_eq_true, decide_eq_true_eq] at hB
  obtain ⟨⟨⟨⟨hn, hd⟩, hac⟩, htail⟩, hseq⟩ := hB
  intro k
  induction k with
  | zero =>
    intro listed xs w hk inv hl hI hdone _
    have hall : ∀ i, i < n → listed.getD i true = true := fun i hi => by
      have h0 := List.countP_eq_zero.1 hk i (by simpa using hi)
      simpa using h0
    have hls : listed.size = l.length := by simpa using inv.size
    have he : listed = headDone n l.length := by
      apply Array.ext_getElem?
      intro i
      by_cases hi : i < n
      · have h1 := hall i hi
        have h2 : i < listed.size := by omega
        rw [Array.getD_eq_getD_getElem?, Array.getElem?_eq_getElem h2] at h1
        rw [Array.getElem?_eq_getElem h2]
        simp only [Option.getD_some] at h1
        simp only [headDone, h1, List.getElem?_toArray]
        rw [List.getElem?_append_left (by simpa using hi), List.getElem?_replicate, if_pos hi]
      · by_cases hi2 : i < l.length
        · have h1 := inv.tail i (by omega) (by simpa using hi2)
          have h2 : i < listed.size := by omega
          rw [Array.getD_eq_getD_getElem?, Array.getElem?_eq_getElem h2] at h1
          rw [Array.getElem?_eq_getElem h2]
          simp only [Option.getD_some] at h1
          simp only [headDone, h1]
          rw [List.getElem?_toArray, List.getElem?_append_right (by simpa using Nat.le_of_not_lt hi), List.getElem?_replicate]
          rw [if_pos (by simp; omega)]
        · rw [Array.getElem?_eq_none (by omega)]
          rw [Array.getElem?_eq_none (by simp [headDone]; omega)]
    have hw := hQ xs w hl hI fun i hi => hdone i hi (hall i hi)
    rw [Nat.zero_add]
    have := wpAny_of_seq (md := .any) (Q' := Q) (l.drop n) n listed (putAll a0 (l.take n) xs) w (fun j => by simp [List.getElem?_drop]) (by rw [he]; simpa using hseq) hw
    simpa using this
  | succ k ih =>
    intro listed xs w hk inv hl hI hdone hpr
    have hls : listed.size = l.length := by simpa using inv.size
    -- some one is still to come
    obtain ⟨i0, hi0, hu0⟩ : ∃ i, i < n ∧ listed.getD i true = false := by
      have h0 : 0 < (List.range n).countP fun i => !listed.getD i true := by unfold unlisted at hk; omega
      obtain ⟨i, hi, hp⟩ := List.countP_pos_iff.1 h0
      exact ⟨i, by simpa using hi, by simpa using hp⟩
    have hready : Region.ready .any l.toArray listed ≠ [] := by
      -- the least one
      have hmin : ∀ m i, i < m → i < n → listed.getD i true = false → ∃ j, j ∈ Region.ready .any l.toArray listed := by
        intro m
        induction m with
        | zero => intro i h; omega
        | succ m ihm =>
          intro i him hin hiu
          by_cases hex : ∃ j, j < i ∧ listed.getD j true = false
          · obtain ⟨j, hj, hju⟩ := hex
            exact ihm j (by omega) (by omega) hju
          · refine ⟨i, mem_ready.2 ⟨hiu, l[i]'(by omega), by simp, fun e he hb => ?_⟩⟩
            have h1 := List.all_eq_true.1 hac (l[i]'(by omega), i) (List.mem_zipIdx_iff_getElem?.2 (by rw [List.getElem?_take, if_pos hin]; exact List.getElem?_eq_getElem _))
            have h2 := Array.all_eq_true'.1 h1 e he
            simp only [hb, Bool.not_true, Bool.false_or, decide_eq_true_eq] at h2
            have h3 : listed.getD e.on true = true := by
              cases h : listed.getD e.on true with
              | true => rfl
              | false => exact absurd ⟨e.on, h2, h⟩ hex
            have h4 : e.on < listed.size := by omega
            rw [Array.getD_eq_getD_getElem?, Array.getElem?_eq_getElem h4] at h3 ⊢
            simpa using h3
      obtain ⟨j, hj⟩ := hmin (i0 + 1) i0 (by omega) hi0 hu0
      intro h; rw [h] at hj; cases hj
    rw [show k + 1 + (l.length - n) = (k + (l.length - n)) + 1 by omega]
    refine ⟨fun h => absurd h hready, fun i hi => ?_⟩
    obtain ⟨hiu, o, ho, hall⟩ := mem_ready.1 hi
    have hin : i < n := by
      rcases htail with h | ⟨⟨hnl, hs⟩, hc⟩
      · have := (Array.getElem?_eq_some_iff.1 ho).1
        simp at this; omega
      · rcases Nat.lt_or_ge i n with h | h
        · exact h
        · exact absurd hi (tail_waits hs hc (by simpa using hnl) inv _ i0 rfl hi0 hu0 i h)
    have ho' : l[i]? = some o := by simpa using ho
    have hfacts : ∀ j, j < n → waits l i j = true → Φ j (xs.getD j undef) w := fun j hj hwt => by
      unfold waits at hwt
      rw [ho'] at hwt
      obtain ⟨e, he, hbe⟩ := Array.any_eq_true'.1 hwt
      simp only [Bool.and_eq_true, beq_iff_eq] at hbe
      have h1 := hall e he hbe.1
      rw [hbe.2] at h1
      refine hdone j hj ?_
      have h4 : j < listed.size := by omega
      rw [Array.getD_eq_getD_getElem?, Array.getElem?_eq_getElem h4] at h1 ⊢
      simpa using h1
    have hnext : ∀ v w', Φ i v w' → T i w w' → Inv w' → wpAny P .any l.toArray Q (k + (l.length - n)) (listed.setIfInBounds i true) ((putAll a0 (l.take n) xs).put o.dst v) w' := by
      intro v w' hv ht hI'
      rw [putAll_set (l.take n) xs a0 i o hd (by rw [List.getElem?_take, if_pos hin]; exact ho') (by simp; omega)]
      have hi2 : i < listed.size := by omega
      refine ih _ (xs.set i v) w' (by have := unlisted_set hin hiu; omega) (inv.set hi hin) (by simpa using hl) hI' (fun j hj hjl => ?_) (fun j hj hju => ?_)
      · by_cases hji : j = i
        · subst hji
          rw [List.getD_eq_getElem?_getD, List.getElem?_set_self (by omega)]
          exact hv
        · rw [getD_set_ne true (Ne.symm hji)] at hjl
          rw [List.getD_eq_getElem?_getD, List.getElem?_set_ne (Ne.symm hji), ← List.getD_eq_getElem?_getD]
          refine hphi j i _ w w' hj hin hji ?_ hI ht (hdone j hj hjl)
          -- i is unlisted, so j didn't wait for it
          cases hw : waits l j i with
          | false => rfl
          | true =>
            exfalso
            unfold waits at hw
            have hjlt : j < l.length := by omega
            rw [List.getElem?_eq_getElem hjlt] at hw
            obtain ⟨e, he, hbe⟩ := Array.any_eq_true'.1 hw
            simp only [Bool.and_eq_true, beq_iff_eq] at hbe
            have h1 := inv.closed j l[j] (by simp [hjlt]) (by
              have h4 : j < listed.size := by omega
              rw [Array.getD_eq_getD_getElem?, Array.getElem?_eq_getElem h4] at hjl ⊢
              simpa using hjl) e he hbe.1
            rw [hbe.2] at h1
            have h4 : i < listed.size := by omega
            rw [Array.getD_eq_getD_getElem?, Array.getElem?_eq_getElem h4] at h1 hiu
            simp at h1 hiu
            rw [h1] at hiu; cases hiu
      · by_cases hji : j = i
        · subst hji
          have : (listed.setIfInBounds j true).getD j true = true := by simp [hi2]
          rw [this] at hju; cases hju
        · rw [getD_set_ne true (Ne.symm hji)] at hju
          refine hpre j i w w' hj hin hji ?_ hI ht (hpr j hj hju)
          cases hw : waits l i j with
          | false => rfl
          | true =>
            exfalso
            unfold waits at hw
            rw [ho'] at hw
            obtain ⟨e, he, hbe⟩ := Array.any_eq_true'.1 hw
            simp only [Bool.and_eq_true, beq_iff_eq] at hbe
            have h1 := hall e he hbe.1
            rw [hbe.2] at h1
            have h4 : j < listed.size := by omega
            rw [Array.getD_eq_getD_getElem?, Array.getElem?_eq_getElem h4] at h1 hju
            simp at h1 hju
            rw [h1] at hju; cases hju
    have hs := hstep i o hin ho' xs w hl hI (hpr i hin hiu) hfacts Q (wpAny P .any l.toArray Q (k + (l.length - n)) (listed.setIfInBounds i true)) hnext
    unfold wpOp
    simp only [ho]
    split
    · rename_i hw; rw [if_pos hw] at hs; exact .inl hs
    · rename_i hw
      obtain ⟨h1, h2⟩ := hun i o xs w hin ho' hl (by simpa using hw) hI (hpr i hin hiu) hfacts
      exact hnext undef w h1 h2 hI

/-- what each operation leaves, from what those before it left; the tail behind them -/
theorem region_mono {id : Nat} {Q : Exit → Act → World → Prop} {w : World} (n : Nat) (Inv : World → Prop) (T : Nat → World → World → Prop) (Pre : Nat → World → Prop) (Φ : Nat → Value → World → Prop)
    (hm : P.follows .mixedOrders = true) (hB : monoB l n = true) (hI : Inv w.drew) (hP : ∀ i, i < n → Pre i w.drew)
    (hstep : ∀ i o, i < n → l[i]? = some o → StepOK P l n a0 Inv T Pre Φ i o)
    (hpre : ∀ i j w w', i < n → j < n → i ≠ j → waits l j i = false → Inv w → T j w w' → Pre i w → Pre i w')
    (hphi : ∀ i j v w w', i < n → j < n → i ≠ j → waits l i j = false → Inv w → T j w w' → Φ i v w → Φ i v w')
    (hun : ∀ i o xs w, i < n → l[i]? = some o → xs.length = n → Region.wanted o (yielded l.toArray (putAll a0 (l.take n) xs).tmps) = false → Inv w → Pre i w → (∀ j, j < n → waits l i j = true → Φ j (xs.getD j undef) w) → Φ i undef w ∧ T i w w)
    (hQ : ∀ xs w, xs.length = n → Inv w → (∀ i, i < n → Φ i (xs.getD i undef) w) → wpList P l.toArray Q (l.drop n) (putAll a0 (l.take n) xs) w) : (Code.region id l.toArray true).wp P Q a0 w := by
  refine wp_region_any hm ?_
  have hn : n ≤ l.length := by
    simp only [monoB, Bool.and_eq_true, decide_eq_true_eq] at hB
    exact hB.1.1.1.1
  have h := mono_any (Q := Q) hB hstep hpre hphi hun hQ n (Array.replicate l.toArray.size false) (slotsOf a0 (l.take n)) w.drew (by
      unfold unlisted
      rw [List.countP_eq_length.2 (by
        intro i hi
        have hi' : i < n := by simpa using hi
        have : i < l.length := by omega
        simp [this])]
      simp) ⟨by simp, fun j oj _ hl => (by rw [getD_replicate_false] at hl; cases hl), fun t _ ht => getD_in (by simpa using ht) (getD_replicate_false _ _)⟩ (by simp [slotsOf]; omega) hI (fun i hi hl => by
      have : i < l.length := by omega
      simp [this] at hl) (fun i hi _ => hP i hi)
  rw [putAll_slots] at h
  rw [show n + (l.length - n) = l.toArray.size by simp; omega] at h
  exact h
end
end Go.Proofs.Ytpkgkabcikmopaa
