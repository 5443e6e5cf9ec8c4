/-
  Operations of which some act one behind the other; the others come to known values once those that they wait for have acted. No function of the program. The conditions: none (a lemma).
-/
import Derived.Test.YtbkaffhbhimglaaGreatGe
namespace Go.Proofs.YtbkaffhbhimglaaGreat
open Go.RowKit
def wayB (l : List Oper) (n : Nat) : List Nat → Bool
 | i :: j :: r => decide (j < n) && zbf l i j && wayB l n (j :: r)
 | _ => true
theorem way_done {l : List Oper} {n : Nat} {L : Nat → Bool} {j : Nat} (hcl : ∀ j k, j < n → k < n → L j = true → zbf l j k = true → L k = true) : ∀ (m : List Nat) (i : Nat), (∀ j, j < n → zbf l i j = true → L j = true) → wayB l n (i :: (m ++ [j])) = true → L j = true
 | [], i, h, hw => by
  simp only [List.nil_append, wayB, Bool.and_true, Bool.and_eq_true, decide_eq_true_eq] at hw
  exact h j hw.1 hw.2
 | x :: m, i, h, hw => by
  simp only [List.cons_append, wayB, Bool.and_eq_true, decide_eq_true_eq] at hw
  exact way_done hcl m x (fun k hk hwk => hcl x k hw.1.1 hk (h x hw.1.1 hw.1.2) hwk) hw.2
theorem staged_regionT {P : Program} {l : List Oper} {a0 : Act} {id : Nat} {Q : Exit → Act → World → Prop} {w : World} (n : Nat) (B : List Nat) (vals : List Value) (R : List Value → World → Prop) (hm : P.follows .mixedOrders = true) (hB : monoB l n = true) (hg : plainB l n a0.tmps.size = true)
  (hnd : B.Nodup) (hlt : ∀ i ∈ B, i < n) (hch : ∀ k i j, B[k]? = some i → B[k + 1]? = some j → ∃ m, wayB l n (j :: (m ++ [i])) = true) (h0 : R [] w.drew)
  (hquiet : ∀ i o, i < n → i ∉ B → l[i]? = some o → ∀ (vs : List Value) (w : World) (a : Act), (∀ k j m, B[k]? = some j → wayB l n (i :: (m ++ [j])) = true → k < vs.length) → R vs w → (∀ t, notDst l n t = true → a.eval (.tmp t) = a0.eval (.tmp t)) →
   (∀ j t, j < n → zbf l i j = true → dstIs l j t = true → a.eval (.tmp t) = valOf B vals vs j) → (execOp a.eval o).run P w = .ok (.value (vals.getD i undef)) w)
  (hact : ∀ k i o, B[k]? = some i → l[i]? = some o → ∀ (vs : List Value) (w : World) (a : Act), vs.length = k → R vs w → (∀ t, notDst l n t = true → a.eval (.tmp t) = a0.eval (.tmp t)) →
   (∀ j t, j < n → zbf l i j = true → dstIs l j t = true → a.eval (.tmp t) = valOf B vals vs j) → ∀ (Q : Exit → Act → World → Prop) (K : Act → World → Prop), (∀ v w', R (vs ++ [v]) w' → K (a.put o.dst v) w') → o.wp P a w K Q)
  (hQ : ∀ xs vs w, xs.length = n → vs.length = B.length → R vs w → (∀ i, i < n → xs.getD i undef = valOf B vals vs i) → wpList P l.toArray Q (l.drop n) (zaw a0 (l.take n) xs) w) : (Code.region id l.toArray true).wp P Q a0 w := by
 refine region_inv n (fun L xs w => ∃ vs : List Value, vs.length ≤ B.length ∧ (∀ k i, B[k]? = some i → (L i = true ↔ k < vs.length)) ∧ R vs w ∧ ∀ i, i < n → L i = true → xs.getD i undef = valOf B vals vs i) hm hB hg ?_ (fun xs _ => ⟨[], by simp, by simp, h0, by simp⟩) ?_ ?_
 ·rintro L L' xs w he ⟨vs, h1, h2, h3, h4⟩
  exact ⟨vs, h1, fun k i hk => by rw [← he i (hlt i (List.mem_of_getElem? hk))]; exact h2 k i hk, h3, fun i hi hl => h4 i hi (by rw [he i hi]; exact hl)⟩
 ·rintro i o hi ho L xs W a hlen ⟨vs, h1, h2, h3, h4⟩ hL hw hcl hold hat Q' K hK
  have hat' : ∀ j t, j < n → zbf l i j = true → dstIs l j t = true → a.eval (.tmp t) = valOf B vals vs j := fun j t hj hwj hd => (hat j t hj hd).trans (h4 j hj (hw j hj hwj))
  by_cases hiB : i ∈ B
  ·obtain ⟨k, hk⟩ := List.getElem?_of_mem hiB
   have hk0 : ¬ k < vs.length := fun h => by rw [(h2 k i hk).2 h] at hL; cases hL
   have hkv : vs.length = k := by
    cases k with
    | zero => omega
    | succ k =>
     obtain ⟨hkl, _⟩ := List.getElem?_eq_some_iff.1 hk
     have hk1 : B[k]? = some B[k] := List.getElem?_eq_getElem (by omega)
     obtain ⟨m, h5⟩ := hch k _ _ hk1 hk
     have h6 := (h2 k _ hk1).1 (way_done hcl m _ hw h5)
     omega
   obtain ⟨hkl, hke⟩ := List.getElem?_eq_some_iff.1 hk
   refine hact k i o hk ho vs W a hkv h3 hold hat' Q' K fun v w' hr => hK v w' ⟨vs ++ [v], by simp; omega, fun m j hm => ?_, hr, fun j hj hjl => ?_⟩
   ·by_cases hji : j = i
    ·subst hji
     have : m = k := by
      obtain ⟨hml, hme⟩ := List.getElem?_eq_some_iff.1 hm
      exact (List.getElem_inj (h₀ := hml) (h₁ := hkl) hnd).1 (by rw [hme, hke])
     subst this
     simp [done_self]; omega
    ·rw [zc8 hji, h2 m j hm]
     have : m ≠ k := fun e => by subst e; rw [hk] at hm; cases hm; exact hji rfl
     simp; omega
   ·by_cases hji : j = i
    ·subst hji
     rw [List.getD_eq_getElem?_getD, List.getElem?_set_self (by omega)]
     unfold valOf
     rw [if_pos hiB]
     have : B.idxOf j = vs.length := by
      rw [hkv, ← hke]; exact hnd.idxOf_getElem k hkl
     simp [this]
    ·rw [List.getD_eq_getElem?_getD, List.getElem?_set_ne (Ne.symm hji), ← List.getD_eq_getElem?_getD]
     rw [zc8 hji] at hjl
     rw [h4 j hj hjl]
     unfold valOf
     split
     ·rename_i hjB
      obtain ⟨m, hm⟩ := List.getElem?_of_mem hjB
      have h6 := (h2 m j hm).1 hjl
      obtain ⟨hml, hme⟩ := List.getElem?_eq_some_iff.1 hm
      have : B.idxOf j = m := by rw [← hme]; exact hnd.idxOf_getElem m hml
      rw [this, List.getD_eq_getElem?_getD, List.getD_eq_getElem?_getD, List.getElem?_append_left h6]
     ·rfl
  ·have hrun := hquiet i o hi hiB ho vs W a (fun k j m hk hwj => (h2 k j hk).1 (way_done hcl m i hw hwj)) h3 hold hat'
   unfold Oper.wp
   rw [hrun]
   refine hK _ _ ⟨vs, h1, fun m j hm => ?_, h3, fun j hj hjl => ?_⟩
   ·have hji : j ≠ i := fun e => hiB (e ▸ List.mem_of_getElem? hm)
    rw [zc8 hji]; exact h2 m j hm
   ·by_cases hji : j = i
    ·subst hji
     rw [List.getD_eq_getElem?_getD, List.getElem?_set_self (by omega)]
     unfold valOf
     rw [if_neg hiB]; rfl
    ·rw [List.getD_eq_getElem?_getD, List.getElem?_set_ne (Ne.symm hji), ← List.getD_eq_getElem?_getD]
     rw [zc8 hji] at hjl
     exact h4 j hj hjl
 ·rintro L xs W hlen hL ⟨vs, h1, h2, h3, h4⟩
  refine hQ xs vs W hlen ?_ h3 fun i hi => h4 i hi (hL i hi)
  rcases Nat.lt_or_ge vs.length B.length with h | h
  ·have hk : B[vs.length]? = some B[vs.length] := List.getElem?_eq_getElem h
   have := (h2 _ _ hk).1 (hL _ (hlt _ (List.mem_of_getElem? hk)))
   omega
  ·omega
end Go.Proofs.YtbkaffhbhimglaaGreat
