/-
  A statement whose order Go leaves open: each operation is shown from a relation on what is done, on the slots and on the world; then a tail in a forced order. The conditions: none (lemmas on the model).
-/
import Derived.Test.YtpkgkabcikmopaaOne
namespace Go.Proofs.Ytpkgkabcikmopaa
open Go.RowKit

def done (L : Nat → Bool) (i : Nat) : Nat → Bool := fun j => if j = i then true else L j
theorem done_self (L : Nat → Bool) (i : Nat) : done L i i = true := by simp [done]
theorem done_ne {L : Nat → Bool} {i j : Nat} (h : j ≠ i) : done L i j = L j := by simp [done, h]

section
variable {P : Program} {l : List Oper} {n : Nat} {a0 : Act} {J : (Nat → Bool) → List Value → World → Prop}

/-- one operation, from what is so far -/
def InvStep (P : Program) (l : List Oper) (n : Nat) (a0 : Act) (J : (Nat → Bool) → List Value → World → Prop) (i : Nat) (o : Oper) : Prop :=
  ∀ (L : Nat → Bool) (xs : List Value) (w : World), xs.length = n → J L xs w → L i = false → (∀ j, j < n → waits l i j = true → L j = true) → (∀ j k, j < n → k < n → L j = true → waits l j k = true → L k = true) →
    ∀ (Q : Exit → Act → World → Prop) (K : Act → World → Prop), (∀ v w', J (done L i) (xs.set i v) w' → K ((putAll a0 (l.take n) xs).put o.dst v) w') →
      if Region.wanted o (yielded l.toArray (putAll a0 (l.take n) xs).tmps) then o.wp P (putAll a0 (l.take n) xs) w K Q else K ((putAll a0 (l.take n) xs).put o.dst undef) w

theorem inv_any (hB : monoB l n = true) (hJ : ∀ L L' xs w, (∀ i, i < n → L i = L' i) → J L xs w → J L' xs w) (hstep : ∀ i o, i < n → l[i]? = some o → InvStep P l n a0 J i o)
    {Q : Exit → Act → World → Prop} (hQ : ∀ L xs w, xs.length = n → (∀ i, i < n → L i = true) → J L xs w → wpList P l.toArray Q (l.drop n) (putAll a0 (l.take n) xs) w) :
    ∀ (k : Nat) (listed : Array Bool) (xs : List Value) (w : World), unlisted n listed = k → HeadInv .any l.toArray n listed → xs.length = n → J (fun i => listed.getD i true) xs w →
      wpAny P .any l.toArray Q (k + (l.length - n)) listed (putAll a0 (l.take n) xs) w := by
  simp only [monoB, Bool.and_eq_true, Bool.or_eq_true, decide_eq_true_eq] at hB
  obtain ⟨⟨⟨⟨hn, hd⟩, hac⟩, htail⟩, hseq⟩ := hB
  intro k
  induction k with
  | zero =>
    intro listed xs w hk inv hl hI
    have hall : ∀ i, i < n → listed.getD i true = true := fun i hi => by
      have h0 := List.countP_eq_zero.1 hk i (by simpa using hi)
      simpa using h0
    have hls : listed.size = l.length := by simpa using inv.size
    have he : listed = headDone n l.length := by
      apply Array.ext_getElem?
      intro i
      by_cases hi : i < n
      · have h1 := hall i hi
        have h2 : i < listed.size := by omega
        rw [Array.getD_eq_getD_getElem?, Array.getElem?_eq_getElem h2] at h1
        rw [Array.getElem?_eq_getElem h2]
        simp only [Option.getD_some] at h1
        simp only [headDone, h1, List.getElem?_toArray]
        rw [List.getElem?_append_left (by simpa using hi), List.getElem?_replicate, if_pos hi]
      · by_cases hi2 : i < l.length
        · have h1 := inv.tail i (by omega) (by simpa using hi2)
          have h2 : i < listed.size := by omega
          rw [Array.getD_eq_getD_getElem?, Array.getElem?_eq_getElem h2] at h1
          rw [Array.getElem?_eq_getElem h2]
          simp only [Option.getD_some] at h1
          simp only [headDone, h1]
          rw [List.getElem?_toArray, List.getElem?_append_right (by simpa using Nat.le_of_not_lt hi), List.getElem?_replicate]
          rw [if_pos (by simp; omega)]
        · rw [Array.getElem?_eq_none (by omega)]
          rw [Array.getElem?_eq_none (by simp [headDone]; omega)]
    have hw := hQ _ xs w hl hall hI
    rw [Nat.zero_add]
    have := wpAny_of_seq (md := .any) (Q' := Q) (l.drop n) n listed (putAll a0 (l.take n) xs) w (fun j => by simp [List.getElem?_drop]) (by rw [he]; simpa using hseq) hw
    simpa using this
  | succ k ih =>
    intro listed xs w hk inv hl hI
    have hls : listed.size = l.length := by simpa using inv.size
    obtain ⟨i0, hi0, hu0⟩ : ∃ i, i < n ∧ listed.getD i true = false := by
      have h0 : 0 < (List.range n).countP fun i => !listed.getD i true := by unfold unlisted at hk; omega
      obtain ⟨i, hi, hp⟩ := List.countP_pos_iff.1 h0
      exact ⟨i, by simpa using hi, by simpa using hp⟩
    have hready : Region.ready .any l.toArray listed ≠ [] := by
      have hmin : ∀ m i, i < m → i < n → listed.getD i true = false → ∃ j, j ∈ Region.ready .any l.toArray listed := by
        intro m
        induction m with
        | zero => intro i h; omega
        | succ m ihm =>
          intro i him hin hiu
          by_cases hex : ∃ j, j < i ∧ listed.getD j true = false
          · obtain ⟨j, hj, hju⟩ := hex
            exact ihm j (by omega) (by omega) hju
          · refine ⟨i, mem_ready.2 ⟨hiu, l[i]'(by omega), by simp, fun e he hb => ?_⟩⟩
            have h1 := List.all_eq_true.1 hac (l[i]'(by omega), i) (List.mem_zipIdx_iff_getElem?.2 (by rw [List.getElem?_take, if_pos hin]; exact List.getElem?_eq_getElem _))
            have h2 := Array.all_eq_true'.1 h1 e he
            simp only [hb, Bool.not_true, Bool.false_or, decide_eq_true_eq] at h2
            have h3 : listed.getD e.on true = true := by
              cases h : listed.getD e.on true with
              | true => rfl
              | false => exact absurd ⟨e.on, h2, h⟩ hex
            have h4 : e.on < listed.size := by omega
            rw [Array.getD_eq_getD_getElem?, Array.getElem?_eq_getElem h4] at h3 ⊢
            simpa using h3
      obtain ⟨j, hj⟩ := hmin (i0 + 1) i0 (by omega) hi0 hu0
      intro h; rw [h] at hj; cases hj
    rw [show k + 1 + (l.length - n) = (k + (l.length - n)) + 1 by omega]
    refine ⟨fun h => absurd h hready, fun i hi => ?_⟩
    obtain ⟨hiu, o, ho, hall⟩ := mem_ready.1 hi
    have hin : i < n := by
      rcases htail with h | ⟨⟨hnl, hs⟩, hc⟩
      · have := (Array.getElem?_eq_some_iff.1 ho).1
        simp at this; omega
      · rcases Nat.lt_or_ge i n with h | h
        · exact h
        · exact absurd hi (tail_waits hs hc (by simpa using hnl) inv _ i0 rfl hi0 hu0 i h)
    have ho' : l[i]? = some o := by simpa using ho
    have hfacts : ∀ j, j < n → waits l i j = true → listed.getD j true = true := fun j hj hwt => by
      unfold waits at hwt
      rw [ho'] at hwt
      obtain ⟨e, he, hbe⟩ := Array.any_eq_true'.1 hwt
      simp only [Bool.and_eq_true, beq_iff_eq] at hbe
      have h1 := hall e he hbe.1
      rw [hbe.2] at h1
      have h4 : j < listed.size := by omega
      rw [Array.getD_eq_getD_getElem?, Array.getElem?_eq_getElem h4] at h1 ⊢
      simpa using h1
    have hclosed : ∀ j m, j < n → m < n → listed.getD j true = true → waits l j m = true → listed.getD m true = true := fun j m hj hm hjl hw => by
      unfold waits at hw
      have hjlt : j < l.length := by omega
      rw [List.getElem?_eq_getElem hjlt] at hw
      obtain ⟨e, he, hbe⟩ := Array.any_eq_true'.1 hw
      simp only [Bool.and_eq_true, beq_iff_eq] at hbe
      have h1 := inv.closed j l[j] (by simp [hjlt]) (by
        have h4 : j < listed.size := by omega
        rw [Array.getD_eq_getD_getElem?, Array.getElem?_eq_getElem h4] at hjl ⊢
        simpa using hjl) e he hbe.1
      rw [hbe.2] at h1
      have h4 : m < listed.size := by omega
      rw [Array.getD_eq_getD_getElem?, Array.getElem?_eq_getElem h4] at h1 ⊢
      simpa using h1
    have hi2 : i < listed.size := by omega
    have hnext : ∀ v w', J (done (fun j => listed.getD j true) i) (xs.set i v) w' → wpAny P .any l.toArray Q (k + (l.length - n)) (listed.setIfInBounds i true) ((putAll a0 (l.take n) xs).put o.dst v) w' := by
      intro v w' hv
      rw [putAll_set (l.take n) xs a0 i o hd (by rw [List.getElem?_take, if_pos hin]; exact ho') (by simp; omega)]
      refine ih _ (xs.set i v) w' (by have := unlisted_set hin hiu; omega) (inv.set hi hin) (by simpa using hl) (hJ _ _ _ _ (fun j hj => ?_) hv)
      by_cases hji : j = i
      · subst hji
        rw [done_self]; simp [hi2]
      · rw [done_ne hji, getD_set_ne true (Ne.symm hji)]
    have hs := hstep i o hin ho' (fun j => listed.getD j true) xs w hl hI hiu hfacts hclosed Q (wpAny P .any l.toArray Q (k + (l.length - n)) (listed.setIfInBounds i true)) hnext
    unfold wpOp
    simp only [ho]
    split
    · rename_i hw; rw [if_pos hw] at hs; exact .inl hs
    · rename_i hw; rw [if_neg hw] at hs; exact hs

theorem region_inv0 {id : Nat} {Q : Exit → Act → World → Prop} {w : World} (hm : P.follows .mixedOrders = true) (hB : monoB l n = true) (hJ : ∀ L L' xs w, (∀ i, i < n → L i = L' i) → J L xs w → J L' xs w)
    (h0 : ∀ xs, xs.length = n → J (fun _ => false) xs w.drew) (hstep : ∀ i o, i < n → l[i]? = some o → InvStep P l n a0 J i o)
    (hQ : ∀ L xs w, xs.length = n → (∀ i, i < n → L i = true) → J L xs w → wpList P l.toArray Q (l.drop n) (putAll a0 (l.take n) xs) w) : (Code.region id l.toArray true).wp P Q a0 w := by
  refine wp_region_any hm ?_
  have hn : n ≤ l.length := by
    simp only [monoB, Bool.and_eq_true, decide_eq_true_eq] at hB
    exact hB.1.1.1.1
  have h := inv_any (Q := Q) hB hJ hstep hQ n (Array.replicate l.toArray.size false) (slotsOf a0 (l.take n)) w.drew (by
      unfold unlisted
      rw [List.countP_eq_length.2 (by
        intro i hi
        have hi' : i < n := by simpa using hi
        have : i < l.length := by omega
        simp [this])]
      simp) ⟨by simp, fun j oj _ hl => (by rw [getD_replicate_false] at hl; cases hl), fun t _ ht => getD_in (by simpa using ht) (getD_replicate_false _ _)⟩ (by simp [slotsOf]; omega)
      (hJ _ _ _ _ (fun i hi => by
        have : i < l.length := by omega
        simp [this]) (h0 _ (by simp [slotsOf]; omega)))
  rw [putAll_slots] at h
  rw [show n + (l.length - n) = l.toArray.size by simp; omega] at h
  exact h
end

/-! ### the slots, by what the operations say -/
def dstIs (l : List Oper) (j t : Nat) : Bool := match l[j]? with
  | some o => o.dst == some t
  | none => false
def notDst (l : List Oper) (n t : Nat) : Bool := (l.take n).all fun o => o.dst != some t
def plainB (l : List Oper) (n size : Nat) : Bool := (l.take n).all fun o => o.guard.isNone && (match o.dst with | some d => decide (d < size) | none => true)

theorem putAll_at2 {t : Tmp} : ∀ (l : List Oper) (xs : List Value) (a : Act) (i : Nat) (o : Oper), dstsApart l = true → l[i]? = some o → o.dst = some t → xs.length = l.length → t < a.tmps.size → (putAll a l xs).eval (.tmp t) = xs.getD i undef
  | [], _, _, _, _, _, h, _, _, _ => by simp at h
  | _ :: _, [], _, _, _, _, _, _, h, _ => by simp at h
  | p :: r, x :: s, a, 0, o, hd, h, ho, hl, ht => by
    simp at h; subst h
    simp only [dstsApart, Bool.and_eq_true, ho] at hd
    rw [putAll, putAll_old, ho, Act.eval_put_same ht]
    · rfl
    · intro q hq
      simpa using List.all_eq_true.1 hd.1 q hq
  | p :: r, x :: s, a, i + 1, o, hd, h, ho, hl, ht => by
    simp only [dstsApart, Bool.and_eq_true] at hd
    rw [putAll, putAll_at2 r s _ i o hd.2 (by simpa using h) ho (by simpa using hl) (by rw [Act.size_put]; exact ht)]
    simp

/-- each operation from a relation on what is done, the slots, the world -/
theorem region_inv {P : Program} {l : List Oper} {a0 : Act} {id : Nat} {Q : Exit → Act → World → Prop} {w : World} (n : Nat) (J : (Nat → Bool) → List Value → World → Prop) (hm : P.follows .mixedOrders = true) (hB : monoB l n = true) (hg : plainB l n a0.tmps.size = true)
    (hJ : ∀ L L' xs w, (∀ i, i < n → L i = L' i) → J L xs w → J L' xs w)
    (h0 : ∀ xs, xs.length = n → J (fun _ => false) xs w.drew)
    (hstep : ∀ i o, i < n → l[i]? = some o → ∀ (L : Nat → Bool) (xs : List Value) (w : World) (a : Act), xs.length = n → J L xs w → L i = false → (∀ j, j < n → waits l i j = true → L j = true) → (∀ j k, j < n → k < n → L j = true → waits l j k = true → L k = true) →
      (∀ t, notDst l n t = true → a.eval (.tmp t) = a0.eval (.tmp t)) → (∀ j t, j < n → dstIs l j t = true → a.eval (.tmp t) = xs.getD j undef) →
      ∀ (Q : Exit → Act → World → Prop) (K : Act → World → Prop), (∀ v w', J (done L i) (xs.set i v) w' → K (a.put o.dst v) w') → o.wp P a w K Q)
    (hQ : ∀ L xs w, xs.length = n → (∀ i, i < n → L i = true) → J L xs w → wpList P l.toArray Q (l.drop n) (putAll a0 (l.take n) xs) w) : (Code.region id l.toArray true).wp P Q a0 w := by
  have hB' := hB
  simp only [monoB, Bool.and_eq_true, decide_eq_true_eq] at hB'
  have hn : n ≤ l.length := hB'.1.1.1.1
  have hd : dstsApart (l.take n) = true := hB'.1.1.1.2
  have hln : (l.take n).length = n := by rw [List.length_take]; omega
  refine region_inv0 hm hB hJ h0 (fun i o hi ho => ?_) hQ
  intro L xs W hlen hj hL hw hc Q' K hK
  have hmem : o ∈ l.take n := List.mem_of_getElem? (i := i) (by rw [List.getElem?_take, if_pos hi]; exact ho)
  have hgd : o.guard = none := by
    have h := List.all_eq_true.1 hg o hmem
    simp only [Bool.and_eq_true] at h
    simpa using h.1
  rw [if_pos (by simp [Region.wanted, hgd])]
  refine hstep i o hi ho L xs W _ hlen hj hL hw hc (fun t ht => ?_) (fun j t hjn hjt => ?_) Q' K hK
  · exact putAll_old _ xs a0 fun p hp => by simpa using List.all_eq_true.1 ht p hp
  · unfold dstIs at hjt
    have hjl : j < l.length := by omega
    rw [List.getElem?_eq_getElem hjl] at hjt
    have hjt : l[j].dst = some t := by simpa using hjt
    have hjm : (l.take n)[j]? = some l[j] := by rw [List.getElem?_take, if_pos hjn]; exact List.getElem?_eq_getElem hjl
    refine putAll_at2 _ xs a0 j l[j] hd hjm hjt (by rw [hlen, hln]) ?_
    have h := List.all_eq_true.1 hg l[j] (List.mem_of_getElem? hjm)
    rw [hjt] at h
    simp only [Bool.and_eq_true, decide_eq_true_eq] at h
    exact h.2

/-! ### operations of which some act one behind the other, and all others come to known values -/
def valOf (B : List Nat) (vals vs : List Value) (j : Nat) : Value := if j ∈ B then vs.getD (B.idxOf j) undef else vals.getD j undef
def chainedB (l : List Oper) (n : Nat) : List Nat → Bool
  | [] => true
  | [i] => decide (i < n)
  | i :: j :: r => decide (i < n) && waits l j i && !(j :: r).contains i && chainedB l n (j :: r)
theorem chainedB_spec {l : List Oper} {n : Nat} : ∀ {B : List Nat}, chainedB l n B = true → B.Nodup ∧ (∀ i ∈ B, i < n) ∧ ∀ k i j, B[k]? = some i → B[k + 1]? = some j → waits l j i = true
  | [], _ => ⟨List.nodup_nil, by simp, by simp⟩
  | [i], h => ⟨by simp, by simpa [chainedB] using h, by simp⟩
  | i :: j :: r, h => by
    simp only [chainedB, Bool.and_eq_true, decide_eq_true_eq] at h
    obtain ⟨⟨⟨h1, h2⟩, h3⟩, h4⟩ := h
    obtain ⟨n1, n2, n3⟩ := chainedB_spec h4
    refine ⟨List.nodup_cons.2 ⟨by simpa using h3, n1⟩, fun x hx => ?_, fun k x y hx hy => ?_⟩
    · rcases List.mem_cons.1 hx with rfl | hx
      · exact h1
      · exact n2 x hx
    · cases k with
      | zero => simp at hx hy; subst hx hy; exact h2
      | succ k => exact n3 k x y (by simpa using hx) (by simpa using hy)

theorem staged_region {P : Program} {l : List Oper} {a0 : Act} {id : Nat} {Q : Exit → Act → World → Prop} {w : World} (n : Nat) (B : List Nat) (vals : List Value) (R : List Value → World → Prop) (hm : P.follows .mixedOrders = true) (hB : monoB l n = true) (hg : plainB l n a0.tmps.size = true)
    (hc : chainedB l n B = true) (h0 : R [] w.drew)
    (hquiet : ∀ i o, i < n → i ∉ B → l[i]? = some o → ∀ (vs : List Value) (w : World) (a : Act), R vs w → (∀ t, notDst l n t = true → a.eval (.tmp t) = a0.eval (.tmp t)) →
      (∀ j t, j < n → waits l i j = true → dstIs l j t = true → a.eval (.tmp t) = valOf B vals vs j) → (execOp a.eval o).run P w = .ok (.value (vals.getD i undef)) w)
    (hact : ∀ k i o, B[k]? = some i → l[i]? = some o → ∀ (vs : List Value) (w : World) (a : Act), vs.length = k → R vs w → (∀ t, notDst l n t = true → a.eval (.tmp t) = a0.eval (.tmp t)) →
      (∀ j t, j < n → waits l i j = true → dstIs l j t = true → a.eval (.tmp t) = valOf B vals vs j) → ∀ (Q : Exit → Act → World → Prop) (K : Act → World → Prop), (∀ v w', R (vs ++ [v]) w' → K (a.put o.dst v) w') → o.wp P a w K Q)
    (hQ : ∀ xs vs w, xs.length = n → vs.length = B.length → R vs w → (∀ i, i < n → xs.getD i undef = valOf B vals vs i) → wpList P l.toArray Q (l.drop n) (putAll a0 (l.take n) xs) w) : (Code.region id l.toArray true).wp P Q a0 w := by
  obtain ⟨hnd, hlt, hch⟩ := chainedB_spec hc
  refine region_inv n (fun L xs w => ∃ vs : List Value, vs.length ≤ B.length ∧ (∀ k i, B[k]? = some i → (L i = true ↔ k < vs.length)) ∧ R vs w ∧ ∀ i, i < n → L i = true → xs.getD i undef = valOf B vals vs i) hm hB hg ?_ (fun xs _ => ⟨[], by simp, by simp, h0, by simp⟩) ?_ ?_
  · rintro L L' xs w he ⟨vs, h1, h2, h3, h4⟩
    exact ⟨vs, h1, fun k i hk => by rw [← he i (hlt i (List.mem_of_getElem? hk))]; exact h2 k i hk, h3, fun i hi hl => h4 i hi (by rw [he i hi]; exact hl)⟩
  · rintro i o hi ho L xs W a hlen ⟨vs, h1, h2, h3, h4⟩ hL hw hcl hold hat Q' K hK
    have hat' : ∀ j t, j < n → waits l i j = true → dstIs l j t = true → a.eval (.tmp t) = valOf B vals vs j := fun j t hj hwj hd => (hat j t hj hd).trans (h4 j hj (hw j hj hwj))
    by_cases hiB : i ∈ B
    · obtain ⟨k, hk⟩ := List.getElem?_of_mem hiB
      have hk0 : ¬ k < vs.length := fun h => by rw [(h2 k i hk).2 h] at hL; cases hL
      have hkv : vs.length = k := by
        cases k with
        | zero => omega
        | succ k =>
          obtain ⟨hkl, _⟩ := List.getElem?_eq_some_iff.1 hk
          have hk1 : B[k]? = some B[k] := List.getElem?_eq_getElem (by omega)
          have h5 := hch k _ _ hk1 hk
          have h6 := (h2 k _ hk1).1 (hw _ (hlt _ (List.mem_of_getElem? hk1)) h5)
          omega
      obtain ⟨hkl, hke⟩ := List.getElem?_eq_some_iff.1 hk
      refine hact k i o hk ho vs W a hkv h3 hold hat' Q' K fun v w' hr => hK v w' ⟨vs ++ [v], by simp; omega, fun m j hm => ?_, hr, fun j hj hjl => ?_⟩
      · by_cases hji : j = i
        · subst hji
          have : m = k := by
            obtain ⟨hml, hme⟩ := List.getElem?_eq_some_iff.1 hm
            exact (List.getElem_inj (h₀ := hml) (h₁ := hkl) hnd).1 (by rw [hme, hke])
          subst this
          simp [done_self]; omega
        · rw [done_ne hji, h2 m j hm]
          have : m ≠ k := fun e => by subst e; rw [hk] at hm; cases hm; exact hji rfl
          simp; omega
      · by_cases hji : j = i
        · subst hji
          rw [List.getD_eq_getElem?_getD, List.getElem?_set_self (by omega)]
          unfold valOf
          rw [if_pos hiB]
          have : B.idxOf j = vs.length := by
            rw [hkv, ← hke]; exact hnd.idxOf_getElem k hkl
          simp [this]
        · rw [List.getD_eq_getElem?_getD, List.getElem?_set_ne (Ne.symm hji), ← List.getD_eq_getElem?_getD]
          rw [done_ne hji] at hjl
          rw [h4 j hj hjl]
          unfold valOf
          split
          · rename_i hjB
            obtain ⟨m, hm⟩ := List.getElem?_of_mem hjB
            have h6 := (h2 m j hm).1 hjl
            obtain ⟨hml, hme⟩ := List.getElem?_eq_some_iff.1 hm
            have : B.idxOf j = m := by rw [← hme]; exact hnd.idxOf_getElem m hml
            rw [this, List.getD_eq_getElem?_getD, List.getD_eq_getElem?_getD, List.getElem?_append_left h6]
          · rfl
    · have hrun := hquiet i o hi hiB ho vs W a h3 hold hat'
      unfold Oper.wp
      rw [hrun]
      refine hK _ _ ⟨vs, h1, fun m j hm => ?_, h3, fun j hj hjl => ?_⟩
      · have hji : j ≠ i := fun e => hiB (e ▸ List.mem_of_getElem? hm)
        rw [done_ne hji]; exact h2 m j hm
      · by_cases hji : j = i
        · subst hji
          rw [List.getD_eq_getElem?_getD, List.getElem?_set_self (by omega)]
          unfold valOf
          rw [if_neg hiB]; rfl
        · rw [List.getD_eq_getElem?_getD, List.getElem?_set_ne (Ne.symm hji), ← List.getD_eq_getElem?_getD]
          rw [done_ne hji] at hjl
          exact h4 j hj hjl
  · rintro L xs W hlen hL ⟨vs, h1, h2, h3, h4⟩
    refine hQ xs vs W hlen ?_ h3 fun i hi => h4 i hi (hL i hi)
    rcases Nat.lt_or_ge vs.length B.length with h | h
    · have hk : B[vs.length]? = some B[vs.length] := List.getElem?_eq_getElem h
      have := (h2 _ _ hk).1 (hL _ (hlt _ (List.mem_of_getElem? hk)))
      omega
    · omega
end Go.Proofs.Ytpkgkabcikmopaa
