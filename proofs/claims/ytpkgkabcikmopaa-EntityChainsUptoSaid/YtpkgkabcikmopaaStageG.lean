/-
  A statement whose order Go leaves open, with operations that hang on what others came to. The conditions: none (lemmas on the model).
-/
import Derived.Test.YtpkgkabcikmopaaStage
namespace Go.Proofs.Ytpkgkabcikmopaa
open Go.RowKit

def slotsB (l : List Oper) (n size : Nat) : Bool := (l.take n).all fun o => match o.dst with | some d => decide (d < size) | none => true

/-- each operation from a relation on what is done, the slots, the world -/
theorem region_invG {P : Program} {l : List Oper} {a0 : Act} {id : Nat} {Q : Exit → Act → World → Prop} {w : World} (n : Nat) (J : (Nat → Bool) → List Value → World → Prop) (hm : P.follows .mixedOrders = true) (hB : monoB l n = true) (hg : slotsB l n a0.tmps.size = true)
    (hJ : ∀ L L' xs w, (∀ i, i < n → L i = L' i) → J L xs w → J L' xs w)
    (h0 : ∀ xs, xs.length = n → J (fun _ => false) xs w.drew)
    (hstep : ∀ i o, i < n → l[i]? = some o → ∀ (L : Nat → Bool) (xs : List Value) (w : World) (a : Act), xs.length = n → J L xs w → L i = false → (∀ j, j < n → waits l i j = true → L j = true) → (∀ j k, j < n → k < n → L j = true → waits l j k = true → L k = true) →
      (∀ t, notDst l n t = true → a.eval (.tmp t) = a0.eval (.tmp t)) → (∀ j t, j < n → dstIs l j t = true → a.eval (.tmp t) = xs.getD j undef) →
      ∀ (Q : Exit → Act → World → Prop) (K : Act → World → Prop), (∀ v w', J (done L i) (xs.set i v) w' → K (a.put o.dst v) w') → o.wp P a w K Q)
    (hwant : ∀ i o, i < n → l[i]? = some o → ∀ (L : Nat → Bool) (xs : List Value) (w : World) (a : Act), xs.length = n → J L xs w → L i = false → (∀ j, j < n → waits l i j = true → L j = true) → (∀ j t, j < n → dstIs l j t = true → a.eval (.tmp t) = xs.getD j undef) → Region.wanted o (yielded l.toArray a.tmps) = true)
    (hQ : ∀ L xs w, xs.length = n → (∀ i, i < n → L i = true) → J L xs w → wpList P l.toArray Q (l.drop n) (putAll a0 (l.take n) xs) w) : (Code.region id l.toArray true).wp P Q a0 w := by
  have hB' := hB
  simp only [monoB, Bool.and_eq_true, decide_eq_true_eq] at hB'
  have hn : n ≤ l.length := hB'.1.1.1.1
  have hd : dstsApart (l.take n) = true := hB'.1.1.1.2
  have hln : (l.take n).length = n := by rw [List.length_take]; omega
  refine region_inv0 hm hB hJ h0 (fun i o hi ho => ?_) hQ
  intro L xs W hlen hj hL hw hc Q' K hK
  have hats : ∀ j t, j < n → dstIs l j t = true → (putAll a0 (l.take n) xs).eval (.tmp t) = xs.getD j undef := fun j t hjn hjt => by
    unfold dstIs at hjt
    have hjl : j < l.length := by omega
    rw [List.getElem?_eq_getElem hjl] at hjt
    have hjt : l[j].dst = some t := by simpa using hjt
    have hjm : (l.take n)[j]? = some l[j] := by rw [List.getElem?_take, if_pos hjn]; exact List.getElem?_eq_getElem hjl
    refine putAll_at2 _ xs a0 j l[j] hd hjm hjt (by rw [hlen, hln]) ?_
    have h := List.all_eq_true.1 hg l[j] (List.mem_of_getElem? hjm)
    rw [hjt] at h
    simpa using h
  rw [if_pos (hwant i o hi ho L xs W _ hlen hj hL hw hats)]
  refine hstep i o hi ho L xs W _ hlen hj hL hw hc (fun t ht => ?_) hats Q' K hK
  exact putAll_old _ xs a0 fun p hp => by simpa using List.all_eq_true.1 ht p hp

theorem staged_regionG {P : Program} {l : List Oper} {a0 : Act} {id : Nat} {Q : Exit → Act → World → Prop} {w : World} (n : Nat) (B : List Nat) (vals : List Value) (R : List Value → World → Prop) (hm : P.follows .mixedOrders = true) (hB : monoB l n = true) (hg : slotsB l n a0.tmps.size = true)
    (hgd : ∀ i o, i < n → l[i]? = some o → ∀ g b, o.guard = some (g, b) → g < n ∧ waits l i g = true ∧ (∃ t, dstIs l g t = true) ∧ ∀ vs w, R vs w → (∀ k, B[k]? = some g → k < vs.length) → valOf B vals vs g = .bool b)
    (hc : chainedB l n B = true) (h0 : R [] w.drew)
    (hquiet : ∀ i o, i < n → i ∉ B → l[i]? = some o → ∀ (vs : List Value) (w : World) (a : Act), R vs w → (∀ t, notDst l n t = true → a.eval (.tmp t) = a0.eval (.tmp t)) →
      (∀ j t, j < n → waits l i j = true → dstIs l j t = true → a.eval (.tmp t) = valOf B vals vs j) → (execOp a.eval o).run P w = .ok (.value (vals.getD i undef)) w)
    (hact : ∀ k i o, B[k]? = some i → l[i]? = some o → ∀ (vs : List Value) (w : World) (a : Act), vs.length = k → R vs w → (∀ t, notDst l n t = true → a.eval (.tmp t) = a0.eval (.tmp t)) →
      (∀ j t, j < n → waits l i j = true → dstIs l j t = true → a.eval (.tmp t) = valOf B vals vs j) → ∀ (Q : Exit → Act → World → Prop) (K : Act → World → Prop), (∀ v w', R (vs ++ [v]) w' → K (a.put o.dst v) w') → o.wp P a w K Q)
    (hQ : ∀ xs vs w, xs.length = n → vs.length = B.length → R vs w → (∀ i, i < n → xs.getD i undef = valOf B vals vs i) → wpList P l.toArray Q (l.drop n) (putAll a0 (l.take n) xs) w) : (Code.region id l.toArray true).wp P Q a0 w := by
  obtain ⟨hnd, hlt, hch⟩ := chainedB_spec hc
  refine region_invG n (fun L xs w => ∃ vs : List Value, vs.length ≤ B.length ∧ (∀ k i, B[k]? = some i → (L i = true ↔ k < vs.length)) ∧ R vs w ∧ ∀ i, i < n → L i = true → xs.getD i undef = valOf B vals vs i) hm hB hg ?_ (fun xs _ => ⟨[], by simp, by simp, h0, by simp⟩) ?_ ?_ ?_
  · rintro L L' xs w he ⟨vs, h1, h2, h3, h4⟩
    exact ⟨vs, h1, fun k i hk => by rw [← he i (hlt i (List.mem_of_getElem? hk))]; exact h2 k i hk, h3, fun i hi hl => h4 i hi (by rw [he i hi]; exact hl)⟩
  · rintro i o hi ho L xs W a hlen ⟨vs, h1, h2, h3, h4⟩ hL hw hcl hold hat Q' K hK
    have hat' : ∀ j t, j < n → waits l i j = true → dstIs l j t = true → a.eval (.tmp t) = valOf B vals vs j := fun j t hj hwj hd => (hat j t hj hd).trans (h4 j hj (hw j hj hwj))
    by_cases hiB : i ∈ B
    · obtain ⟨k, hk⟩ := List.getElem?_of_mem hiB
      have hk0 : ¬ k < vs.length := fun h => by rw [(h2 k i hk).2 h] at hL; cases hL
      have hkv : vs.length = k := by
        cases k with
        | zero => omega
        | succ k =>
          obtain ⟨hkl, _⟩ := List.getElem?_eq_some_iff.1 hk
          have hk1 : B[k]? = some B[k] := List.getElem?_eq_getElem (by omega)
          have h5 := hch k _ _ hk1 hk
          have h6 := (h2 k _ hk1).1 (hw _ (hlt _ (List.mem_of_getElem? hk1)) h5)
          omega
      obtain ⟨hkl, hke⟩ := List.getElem?_eq_some_iff.1 hk
      refine hact k i o hk ho vs W a hkv h3 hold hat' Q' K fun v w' hr => hK v w' ⟨vs ++ [v], by simp; omega, fun m j hm => ?_, hr, fun j hj hjl => ?_⟩
      · by_cases hji : j = i
        · subst hji
          have : m = k := by
            obtain ⟨hml, hme⟩ := List.getElem?_eq_some_iff.1 hm
            exact (List.getElem_inj (h₀ := hml) (h₁ := hkl) hnd).1 (by rw [hme, hke])
          subst this
          simp [done_self]; omega
        · rw [done_ne hji, h2 m j hm]
          have : m ≠ k := fun e => by subst e; rw [hk] at hm; cases hm; exact hji rfl
          simp; omega
      · by_cases hji : j = i
        · subst hji
          rw [List.getD_eq_getElem?_getD, List.getElem?_set_self (by omega)]
          unfold valOf
          rw [if_pos hiB]
          have : B.idxOf j = vs.length := by
            rw [hkv, ← hke]; exact hnd.idxOf_getElem k hkl
          simp [this]
        · rw [List.getD_eq_getElem?_getD, List.getElem?_set_ne (Ne.symm hji), ← List.getD_eq_getElem?_getD]
          rw [done_ne hji] at hjl
          rw [h4 j hj hjl]
          unfold valOf
          split
          · rename_i hjB
            obtain ⟨m, hm⟩ := List.getElem?_of_mem hjB
            have h6 := (h2 m j hm).1 hjl
            obtain ⟨hml, hme⟩ := List.getElem?_eq_some_iff.1 hm
            have : B.idxOf j = m := by rw [← hme]; exact hnd.idxOf_getElem m hml
            rw [this, List.getD_eq_getElem?_getD, List.getD_eq_getElem?_getD, List.getElem?_append_left h6]
          · rfl
    · have hrun := hquiet i o hi hiB ho vs W a h3 hold hat'
      unfold Oper.wp
      rw [hrun]
      refine hK _ _ ⟨vs, h1, fun m j hm => ?_, h3, fun j hj hjl => ?_⟩
      · have hji : j ≠ i := fun e => hiB (e ▸ List.mem_of_getElem? hm)
        rw [done_ne hji]; exact h2 m j hm
      · by_cases hji : j = i
        · subst hji
          rw [List.getD_eq_getElem?_getD, List.getElem?_set_self (by omega)]
          unfold valOf
          rw [if_neg hiB]; rfl
        · rw [List.getD_eq_getElem?_getD, List.getElem?_set_ne (Ne.symm hji), ← List.getD_eq_getElem?_getD]
          rw [done_ne hji] at hjl
          exact h4 j hj hjl
  · rintro i o hi ho L xs W a hlen ⟨vs, h1, h2, h3, h4⟩ hL hw hat
    unfold Region.wanted
    cases hgg : o.guard with
    | none => rfl
    | some gb =>
      obtain ⟨g, b⟩ := gb
      obtain ⟨g1, g2, ⟨t, g3⟩, g4⟩ := hgd i o hi ho g b hgg
      have hLg := hw g g1 g2
      have hv := g4 vs W h3 fun k hk => (h2 k g hk).1 hLg
      rw [← h4 g g1 hLg, ← hat g t g1 g3] at hv
      have hdst : (l.toArray[g]?).bind (·.dst) = some t := by
        unfold dstIs at g3
        cases hlg : l[g]? with
        | none => rw [hlg] at g3; cases g3
        | some og => rw [hlg] at g3; simp [hlg]; simpa using g3
      have hy : yielded l.toArray a.tmps g = some b := by
        unfold yielded
        rw [hdst]
        have : a.tmps[t]? = some (.bool b) := by
          have hv : a.tmps.getD t undef = .bool b := hv
          rw [Array.getD_eq_getD_getElem?] at hv
          cases ht : a.tmps[t]? with
          | none => rw [ht] at hv; cases hv
          | some v => rw [ht] at hv; simp at hv; rw [hv]
        rw [Option.bind_some, this]
      show (yielded l.toArray a.tmps g == some b) = true
      rw [hy]; simp
  · rintro L xs W hlen hL ⟨vs, h1, h2, h3, h4⟩
    refine hQ xs vs W hlen ?_ h3 fun i hi => h4 i hi (hL i hi)
    rcases Nat.lt_or_ge vs.length B.length with h | h
    · have hk : B[vs.length]? = some B[vs.length] := List.getElem?_eq_getElem h
      have := (h2 _ _ hk).1 (hL _ (hlt _ (List.mem_of_getElem? hk)))
      omega
    · omega
end Go.Proofs.Ytpkgkabcikmopaa
