/-
  A statement whose order Go leaves open, whose operations only make memory: each comes to a value of a known kind (also where it lies in memory that the statement itself made), guarded ones too. The conditions: none (a lemma on the model).
-/
import Derived.Test.YtebfoimbdljbmaaGreatDoorGe
namespace Go.Proofs.YtebfoimbdljbmaaGreatDoor
open Go.RowKit
theorem size_putAll : ∀ (l : List Oper) (xs : List Value) (a : Act), (zao a l xs).tmps.size = a.tmps.size
 | [], _, _ => rfl
 | _ :: _, [], _ => rfl
 | o :: r, x :: s, a => by rw [zao, size_putAll r s, Act.size_put]
def guardB (l : List Oper) (n size : Nat) : Bool := (l.take n).zipIdx.all fun (o, i) =>
 (match o.guard with | none => true | some (j, _) => waits l i j && decide (j < n) && (match l[j]? with | some p => p.dst.isSome | none => false)) && (match o.dst with | some d => decide (d < size) | none => true)
theorem region_known {P : Program} {l : List Oper} {a0 : Act} {id : Nat} {Q : Exit → Act → World → Prop} {w : World} (n : Nat) (V : Nat → Value → World → Prop) (hm : P.follows .mixedOrders = true) (hB : monoB l n = true) (hg : guardB l n a0.tmps.size = true)
  (hV : ∀ i v W W', V i v W → Ext W W' → V i v W')
  (hguard : ∀ i o j b, i < n → l[i]? = some o → o.guard = some (j, b) → ∀ v W, Ext w W → V j v W → v = .bool b)
  (hstep : ∀ i o, i < n → l[i]? = some o → ∀ (W : World) (a : Act), Ext w W → (∀ t, notDst l n t = true → a.eval (.tmp t) = a0.eval (.tmp t)) →
   (∀ j t, j < n → waits l i j = true → dstIs l j t = true → V j (a.eval (.tmp t)) W) → ∀ (Q : Exit → Act → World → Prop) (K : Act → World → Prop), (∀ v W', Ext W W' → V i v W' → K (a.put o.dst v) W') → o.wp P a W K Q)
  (hQ : ∀ xs W, xs.length = n → Ext w W → (∀ i, i < n → V i (xs.getD i undef) W) → wpList P l.toArray Q (l.drop n) (zao a0 (l.take n) xs) W) : (Code.region id l.toArray true).wp P Q a0 w := by
 have hB' := hB
 simp only [monoB, Bool.and_eq_true, decide_eq_true_eq] at hB'
 have hn : n ≤ l.length := hB'.1.1.1.1
 have hd : zbc (l.take n) = true := hB'.1.1.1.2
 have hln : (l.take n).length = n := by rw [List.length_take]; omega
 have hgo : ∀ i o, i < n → l[i]? = some o → (match o.guard with | none => true | some (j, _) => waits l i j && decide (j < n) && (match l[j]? with | some p => p.dst.isSome | none => false)) = true ∧ (match o.dst with | some d => decide (d < a0.tmps.size) | none => true) = true := fun i o hi ho => by
  have hz := List.all_eq_true.1 hg (o, i) (List.mem_zipIdx_iff_getElem?.2 (by rw [List.getElem?_take, if_pos hi]; exact ho))
  simpa only [Bool.and_eq_true] using hz
 have hat : ∀ (xs : List Value) (j t : Nat), xs.length = n → j < n → dstIs l j t = true → (zao a0 (l.take n) xs).eval (.tmp t) = xs.getD j undef ∧ t < a0.tmps.size := fun xs j t hlen hjn hjt => by
  unfold dstIs at hjt
  have hjl : j < l.length := by omega
  rw [List.getElem?_eq_getElem hjl] at hjt
  have hjt : l[j].dst = some t := by simpa using hjt
  have hjm : (l.take n)[j]? = some l[j] := by rw [List.getElem?_take, if_pos hjn]; exact List.getElem?_eq_getElem hjl
  have h := (hgo j l[j] hjn (List.getElem?_eq_getElem hjl)).2
  rw [hjt] at h
  have h : t < a0.tmps.size := of_decide_eq_true h
  exact ⟨putAll_at2 _ xs a0 j l[j] hd hjm hjt (by rw [hlen, hln]) h, h⟩
 refine region_inv0 (J := fun L xs W => Ext w W ∧ ∀ i, i < n → L i = true → V i (xs.getD i undef) W) hm hB ?_ (fun xs _ => ⟨(Ext.refl w).drewN 1, by simp⟩) (fun i o hi ho => ?_) ?_
 ·rintro L L' xs W he ⟨h1, h2⟩
  exact ⟨h1, fun i hi hl => h2 i hi (by rw [he i hi]; exact hl)⟩
 ·rintro L xs W hlen ⟨h1, h2⟩ hL hw hcl Q' K hK
  have hwant : Region.wanted o (yielded l.toArray (zao a0 (l.take n) xs).tmps) = true := by
   have hz := (hgo i o hi ho).1
   cases hgd : o.guard with
   | none => simp [Region.wanted, hgd]
   | some p =>
    obtain ⟨j, b⟩ := p
    rw [hgd] at hz
    simp only [Bool.and_eq_true, decide_eq_true_eq] at hz
    obtain ⟨⟨hz1, hz2⟩, hz3⟩ := hz
    have hjl : j < l.length := by omega
    rw [List.getElem?_eq_getElem hjl] at hz3
    obtain ⟨t, ht⟩ := Option.isSome_iff_exists.1 hz3
    have hdt : dstIs l j t = true := by unfold dstIs; rw [List.getElem?_eq_getElem hjl]; simp [ht]
    obtain ⟨he, hts⟩ := hat xs j t hlen hz2 hdt
    have hv := hguard i o j b hi ho hgd _ W h1 (h2 j hz2 (hw j hz2 hz1))
    rw [hv] at he
    have hsz : t < (zao a0 (l.take n) xs).tmps.size := by rw [size_putAll]; exact hts
    simp only [Region.wanted, hgd, yielded, List.getElem?_toArray, List.getElem?_eq_getElem hjl, Option.bind_some, ht]
    simp only [Act.eval] at he
    rw [Array.getD_eq_getD_getElem?] at he
    rw [Array.getElem?_eq_getElem hsz] at he ⊢
    simp only [Option.getD_some] at he
    rw [he]
    simp
  rw [if_pos hwant]
  refine hstep i o hi ho W _ h1 (fun t ht => putAll_old _ xs a0 fun p hp => by simpa using List.all_eq_true.1 ht p hp) (fun j t hj hwj hdj => ?_) Q' K fun v W' hx hv => hK v W' ⟨h1.trans hx, fun j hj hjl => ?_⟩
  ·rw [(hat xs j t hlen hj hdj).1]
   exact h2 j hj (hw j hj hwj)
  ·by_cases hji : j = i
   ·subst hji
    rw [List.getD_eq_getElem?_getD, List.getElem?_set_self (by omega)]
    exact hv
   ·rw [List.getD_eq_getElem?_getD, List.getElem?_set_ne (Ne.symm hji), ← List.getD_eq_getElem?_getD]
    rw [zbn hji] at hjl
    exact hV j _ _ _ (h2 j hj hjl) hx
 ·rintro L xs W hlen hL ⟨h1, h2⟩
  exact hQ xs W hlen h1 fun i hi => h2 i hi (hL i hi)
end Go.Proofs.YtebfoimbdljbmaaGreatDoor
