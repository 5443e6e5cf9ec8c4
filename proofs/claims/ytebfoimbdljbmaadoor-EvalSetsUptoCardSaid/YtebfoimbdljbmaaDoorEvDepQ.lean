/-
  What an expression comes to is not deep. No program in sight. The conditions: the entities' attributes are not deep.
-/
import Derived.Test.YtebfoimbdljbmaaDoorEvQ
import Derived.Test.YtebfoimbdljbmaaDoorGc
namespace Go.Proofs.YtebfoimbdljbmaaDoor
open Go.RowKit

theorem zero_dep : Val.zero.dep ≤ 50 := by simp [Val.zero, Val.dep]
theorem canon_le (v : Val) : v.canon.1.dep ≤ 50 := by
  by_cases h : v.canon.2 = 0
  · obtain ⟨h1, h2, h3⟩ := Val.canon_ok h
    rw [h2, Val.can_dep h3]
    exact h1
  · rw [(Val.canon_okR v).2 h]
    exact zero_dep
theorem no_dep (e : Int) : (no e).1.dep ≤ 50 := zero_dep
theorem yes_dep (b : Bool) : (yes b).1.dep ≤ 50 := by simp [yes, Val.truth, Val.dep]
theorem fitI_dep (n : Int) : (fitI n).1.dep ≤ 50 := by
  unfold fitI
  split
  · simp [Val.whole, Val.dep]
  · exact no_dep _
theorem Val.item_dep {v : Val} {nm : ByteArray} {i : Nat} {D : Nat} (h : v.dep ≤ D) (hD : 50 ≤ D) (hf : v.find nm = some i) : ((v.items[i]?).getD .zero).dep ≤ D := by
  obtain ⟨k, bo, n, t, ut, ui, items, names⟩ := v
  have hk : k = 6 := by
    simp only [Val.find] at hf
    split at hf
    · assumption
    · cases hf
  subst hk
  simp only [Val.items, Val.dep] at h ⊢
  rw [if_pos (by simp)] at h
  cases hx : items[i]? with
  | none => exact Nat.le_trans zero_dep hD
  | some x =>
    have := Val.deps_mem (List.mem_of_getElem? hx)
    simp only [Option.getD_some]
    omega
section
variable {D : Nat} (hD : 50 ≤ D)
include hD
theorem someV_dep {r : Rs} {k : Int} (h : r.1.dep ≤ D) : (someV r k).1.dep ≤ D := by
  unfold someV
  repeat' split
  all_goals first | exact h | exact Nat.le_trans (no_dep _) hD
theorem choiceV_dep {op : Int} {a b d : Rs} (ha : a.1.dep ≤ D) (hb : b.1.dep ≤ D) (hd : d.1.dep ≤ D) : (choiceV op a b d).1.dep ≤ D := by
  unfold choiceV
  repeat' split
  all_goals first | exact ha | exact hb | exact hd | exact Nat.le_trans (no_dep _) hD | exact someV_dep hD hb
theorem attrsV_dep {c : List Ent} (hc : ∀ x ∈ c, x.av.dep ≤ D) {v : Val} (hv : v.dep ≤ D) : (attrsV c v).1.dep ≤ D := by
  unfold attrsV
  repeat' split
  all_goals first | exact hv | exact Nat.le_trans zero_dep hD | (rename_i hx; exact hc _ (List.mem_of_getElem? hx))
theorem attributeV_dep {c : List Ent} (hc : ∀ x ∈ c, x.av.dep ≤ D) {op : Int} {name : ByteArray} {v : Val} (hv : v.dep ≤ D) : (attributeV c op name v).1.dep ≤ D := by
  have ha := attrsV_dep hD hc hv
  unfold attributeV
  repeat' split
  all_goals first | exact Nat.le_trans (no_dep _) hD | exact Nat.le_trans (yes_dep _) hD | exact Val.item_dep ha hD (by assumption)
theorem oneV_dep {c : List Ent} (hc : ∀ x ∈ c, x.av.dep ≤ D) {op : Int} {name : ByteArray} {v : Val} (hv : v.dep ≤ D) : (oneV c op name v).1.dep ≤ D := by
  unfold oneV
  repeat' split
  all_goals first | exact Nat.le_trans (no_dep _) hD | exact Nat.le_trans (yes_dep _) hD | exact attributeV_dep hD hc hv | exact Nat.le_trans (fitI_dep _) hD
theorem twoV_dep (c : List Ent) (op : Int) (a b : Val) : (twoV c op a b).1.dep ≤ D := by
  unfold twoV withinV setsV
  repeat' split
  all_goals first | exact Nat.le_trans (no_dep _) hD | exact Nat.le_trans (yes_dep _) hD | exact Nat.le_trans (fitI_dep _) hD
omit hD in
theorem allV_dep : ∀ {l : List Rs}, (∀ r ∈ l, r.1.dep ≤ D) → ∀ x ∈ (allV l).1, x.dep ≤ D
  | [], _, x, hx => by simp [allV] at hx
  | r :: l, h, x, hx => by
    unfold allV at hx
    split at hx
    · cases hx
    · split at hx
      · cases hx
      · rcases List.mem_cons.1 hx with rfl | hx
        · exact h r (List.mem_cons_self ..)
        · exact allV_dep (fun r hr => h r (List.mem_cons_of_mem _ hr)) x hx
theorem varV_dep (q : Req) (name : ByteArray) : (varV q name).1.dep ≤ D := by
  unfold varV
  repeat' split
  all_goals first | exact Nat.le_trans (canon_le _) hD | exact Nat.le_trans (no_dep _) hD | (refine Nat.le_trans ?_ hD; simp [Val.ofU, Val.dep])
theorem evOp_dep {q : Req} {c : List Ent} (hc : ∀ x ∈ c, x.av.dep ≤ D) {op : Int} {v : Val} {name : ByteArray} {names : List ByteArray} {rs : List Rs} (h : ∀ r ∈ rs, r.1.dep ≤ D) : (evOp q c op v name names rs).1.dep ≤ D := by
  have hg : ∀ i : Nat, (rs[i]?.getD (no 1)).1.dep ≤ D := fun i => by
    cases hx : rs[i]? with
    | none => exact Nat.le_trans (no_dep _) hD
    | some r => exact h r (List.mem_of_getElem? hx)
  have ha := allV_dep h
  unfold evOp
  split
  · exact Nat.le_trans (no_dep _) hD
  split
  · exact Nat.le_trans (canon_le _) hD
  split
  · exact varV_dep hD q name
  split
  · exact Nat.le_trans (no_dep _) hD
  split
  · exact choiceV_dep hD (hg 0) (hg 1) (hg 2)
  split
  · exact Nat.le_trans (no_dep _) hD
  split
  · exact Nat.le_trans (canon_le _) hD
  split
  · exact Nat.le_trans (canon_le _) hD
  split
  · rename_i a e
    exact oneV_dep hD hc (ha a (by rw [e]; simp))
  · exact twoV_dep hD c op _ _
  · exact Nat.le_trans (no_dep _) hD
end
mutual
theorem Exp.ev_dep {D : Nat} (hD : 50 ≤ D) {q : Req} {c : List Ent} (hc : ∀ x ∈ c, x.av.dep ≤ D) : ∀ e : Exp, (e.ev q c).1.dep ≤ D
  | .mk op v name kids names => by
    rw [Exp.ev]
    exact evOp_dep hD hc (Exp.evs_dep hD hc kids)
theorem Exp.evs_dep {D : Nat} (hD : 50 ≤ D) {q : Req} {c : List Ent} (hc : ∀ x ∈ c, x.av.dep ≤ D) : ∀ l : List Exp, ∀ r ∈ Exp.evs q c l, r.1.dep ≤ D
  | [], r, hr => by simp [Exp.evs] at hr
  | e :: l, r, hr => by
    rw [Exp.evs] at hr
    rcases List.mem_cons.1 hr with rfl | hr
    · exact Exp.ev_dep hD hc e
    · exact Exp.evs_dep hD hc l r hr
end
theorem all_dep {D : Nat} (hD : 50 ≤ D) {q : Req} {c : List Ent} (hc : ∀ x ∈ c, x.av.dep ≤ D) (l : List Exp) : Val.deps (allV (l.map (Exp.ev q c))).1 ≤ D :=
  Val.deps_le fun x hx => allV_dep (fun r hr => by obtain ⟨e, _, rfl⟩ := List.mem_map.1 hr; exact Exp.ev_dep hD hc e) x hx
theorem allV_len : ∀ {l : List Rs}, (allV l).2 = 0 → (allV l).1.length = l.length
  | [], _ => rfl
  | r :: l, h => by
    unfold allV at h ⊢
    split at h
    · exact absurd h (by assumption)
    · rename_i h1
      rw [if_neg h1]
      split at h
      · exact absurd h (by assumption)
      · rename_i h2
        rw [if_neg h2]
        simp [allV_len (Decidable.byContradiction h2)]
end Go.Proofs.YtebfoimbdljbmaaDoor
