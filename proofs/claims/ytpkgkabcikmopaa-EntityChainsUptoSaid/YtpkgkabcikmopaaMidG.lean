/-
  Compaction of a row of things of one kind, in its midst. No function of the program. The conditions: none (definitions and lemmas).
-/
import Derived.Test.YtpkgkabcikmopaaGen
import Derived.Test.YtpkgkabcikmopaaCompact
namespace Go.Proofs.Ytpkgkabcikmopaa
open Go.RowKit

/-! ### rows of k cells -/
theorem flatten_getK {sz : Nat} : ∀ {rows : List (List Value)} {i j : Nat} {cs : List Value} {v : Value}, (∀ r ∈ rows, r.length = sz) → rows[i]? = some cs → cs[j]? = some v → rows.flatten[i * sz + j]? = some v
  | [], _, _, _, _, _, h, _ => by simp at h
  | r :: rs, 0, j, cs, v, hl, h, hj => by
    simp at h; subst h
    rw [List.flatten_cons, List.getElem?_append_left (by simpa using (List.getElem?_eq_some_iff.1 hj).1)]
    simpa using hj
  | r :: rs, i + 1, j, cs, v, hl, h, hj => by
    have h8 := hl r (by simp)
    rw [List.flatten_cons, List.getElem?_append_right (by rw [Nat.succ_mul]; omega), show (i + 1) * sz + j - r.length = i * sz + j by rw [Nat.succ_mul]; omega]
    exact flatten_getK (fun x hx => hl x (by simp [hx])) (by simpa using h) hj
theorem flatten_lengthK {sz : Nat} : ∀ {rows : List (List Value)}, (∀ r ∈ rows, r.length = sz) → rows.flatten.length = rows.length * sz
  | [], _ => by simp
  | r :: rs, hl => by
    have h8 := hl r (by simp)
    rw [List.flatten_cons, List.length_append, flatten_lengthK fun x hx => hl x (by simp [hx]), List.length_cons, Nat.succ_mul]
    omega
theorem flatten_setK {sz : Nat} : ∀ {rows : List (List Value)} {i : Nat} {cs : List Value}, (∀ r ∈ rows, r.length = sz) → i < rows.length → cs.length = sz →
    rows.flatten.take (i * sz) ++ cs ++ rows.flatten.drop (i * sz + sz) = (rows.set i cs).flatten
  | [], _, _, _, h, _ => by simp at h
  | r :: rs, 0, cs, hl, _, hc => by
    have h8 := hl r (by simp)
    simp [h8]
  | r :: rs, i + 1, cs, hl, h, hc => by
    have h8 := hl r (by simp)
    have ih := flatten_setK (rows := rs) (i := i) (cs := cs) (fun x hx => hl x (by simp [hx])) (by simpa using h) hc
    rw [List.set_cons_succ, List.flatten_cons, List.flatten_cons, ← ih]
    rw [List.take_append, List.drop_append, List.take_of_length_le (by rw [Nat.succ_mul]; omega), List.drop_eq_nil_iff.2 (by rw [Nat.succ_mul]; omega), show (i + 1) * sz - r.length = i * sz by rw [Nat.succ_mul]; omega, show (i + 1) * sz + sz - r.length = i * sz + sz by rw [Nat.succ_mul]; omega]
    simp
theorem flatten_takeK {sz : Nat} : ∀ {rows : List (List Value)} {k : Nat}, (∀ r ∈ rows, r.length = sz) → (rows.take k).flatten = rows.flatten.take (k * sz)
  | [], _, _ => by simp
  | r :: rs, 0, _ => by simp
  | r :: rs, k + 1, hl => by
    have h8 := hl r (by simp)
    rw [List.take_succ_cons, List.flatten_cons, List.flatten_cons, flatten_takeK (rows := rs) (k := k) fun x hx => hl x (by simp [hx]), List.take_append, List.take_of_length_le (l := r) (by rw [Nat.succ_mul]; omega), show (k + 1) * sz - r.length = k * sz by rw [Nat.succ_mul]; omega]

/-- cells in rows of k -/
theorem rows_ofK {sz : Nat} : ∀ (n : Nat) (l : List Value), l.length = n * sz → ∃ rows : List (List Value), rows.length = n ∧ (∀ r ∈ rows, r.length = sz) ∧ rows.flatten = l
  | 0, l, h => ⟨[], rfl, by simp, by have : l = [] := List.eq_nil_of_length_eq_zero (by simpa using h); simp [this]⟩
  | n + 1, l, h => by
    rw [Nat.succ_mul] at h
    obtain ⟨rows, h1, h2, h3⟩ := rows_ofK (sz := sz) n (l.drop sz) (by simp; omega)
    refine ⟨l.take sz :: rows, by simp [h1], fun r hr => ?_, by simp [h3]⟩
    rcases List.mem_cons.1 hr with rfl | hr
    · simp; omega
    · exact h2 r hr

/-- in the midst of compaction: the first kk rows are what is kept of so many, the rows from a place on are as they were -/
structure MidG {α : Type} (R : Rep α) (c : α → α → Int) (S : Nat → Prop) (w : World) (g cap : Nat) (T : TypeId) (l : List α) (n0 kk q : Nat) (wr : World) : Prop where
  grown : GrownBy w wr (some g)
  len : (dedup c (l.take (n0 + q + 1))).length = kk
  le : kk ≤ n0 + q
  rows : ∃ rows : List (List Value), wr.heap[g]? = some (.cells rows.flatten.toArray T (0, 0)) ∧ rows.length = cap ∧ (∀ r ∈ rows, r.length = R.size) ∧
    (∀ (i : Nat) (x : α), (dedup c (l.take (n0 + q + 1)))[i]? = some x → ∃ cs, rows[i]? = some cs ∧ R.At S w x cs) ∧ (∀ (i : Nat) (x : α), n0 + q ≤ i → l[i]? = some x → ∃ cs, rows[i]? = some cs ∧ R.At S w x cs)

theorem MidG.ext {α : Type} {R : Rep α} {c : α → α → Int} {S : Nat → Prop} {w wr w' : World} {g cap : Nat} {T : TypeId} {l : List α} {n0 kk q : Nat} (h : MidG R c S w g cap T l n0 kk q wr) (k : Ext wr w') : MidG R c S w g cap T l n0 kk q w' := by
  obtain ⟨rows, h1, h2⟩ := h.rows
  exact ⟨h.grown.trans (GrownBy.of_ext _ k), h.len, h.le, rows, (k.block _ (Blk_lt h1)).trans h1, h2⟩

theorem MidG.alike {α : Type} {R : Rep α} {c : α → α → Int} {S : Nat → Prop} {w wr : World} {g cap : Nat} {T : TypeId} {l : List α} {n0 kk q : Nat} (h : MidG R c S w g cap T l n0 kk q wr) (hS : ∀ b, S b → b < w.heap.size) (hg : ¬ S g) : Alike S w wr :=
  fun b hb => h.grown.block b (hS b hb) (fun e => by injection e with e; subst e; exact hg hb)

theorem MidG.old {α : Type} {R : Rep α} {c : α → α → Int} {S : Nat → Prop} {w wr : World} {g cap : Nat} {T : TypeId} {l : List α} {n0 kk q : Nat} {x y : α} (h : MidG R c S w g cap T l n0 kk q wr) (hx : l[n0 + q]? = some x) (hy : l[n0 + q + 1]? = some y) (h0 : c y x = 0) :
    MidG R c S w g cap T l n0 kk (q + 1) wr := by
  have hd : dedup c (l.take (n0 + q + 1 + 1)) = dedup c (l.take (n0 + q + 1)) := by rw [dedup_take_succ hx hy, if_pos h0, List.append_nil]
  obtain ⟨rows, h1, h2, h3, h4, h5⟩ := h.rows
  refine ⟨h.grown, ?_, by have := h.le; omega, rows, h1, h2, h3, ?_, fun i z hi => h5 i z (by omega)⟩
  · rw [show n0 + (q + 1) + 1 = n0 + q + 1 + 1 by omega, hd]; exact h.len
  · rw [show n0 + (q + 1) + 1 = n0 + q + 1 + 1 by omega, hd]; exact h4

theorem MidG.new {α : Type} {R : Rep α} {c : α → α → Int} {S : Nat → Prop} {w wr : World} {g cap : Nat} {T : TypeId} {l : List α} {n0 kk q : Nat} {x y : α} {cur : Array Value} {cs : List Value} (h : MidG R c S w g cap T l n0 kk q wr) (hx : l[n0 + q]? = some x) (hy : l[n0 + q + 1]? = some y) (h0 : c y x ≠ 0)
    (hcur : wr.heap[g]? = some (.cells cur T (0, 0))) (hcs : R.At S w y cs) (hcap : l.length ≤ cap) :
    MidG R c S w g cap T l n0 (kk + 1) (q + 1) (wr.setRow g (cur.toList.take (kk * R.size) ++ cs ++ cur.toList.drop (kk * R.size + cs.length)).toArray) := by
  have hd : dedup c (l.take (n0 + q + 1 + 1)) = dedup c (l.take (n0 + q + 1)) ++ [y] := by rw [dedup_take_succ hx hy, if_neg h0]
  obtain ⟨rows, h1, h2, h3, h4, h5⟩ := h.rows
  rw [h1] at hcur
  injection hcur with hcur
  injection hcur with hcur
  subst hcur
  have hle := h.le
  have hyl : n0 + q + 1 < l.length := (List.getElem?_eq_some_iff.1 hy).1
  have h8 := R.len hcs
  have hk : kk < rows.length := by omega
  have hset : (rows.flatten.toArray.toList.take (kk * R.size) ++ cs ++ rows.flatten.toArray.toList.drop (kk * R.size + cs.length)) = (rows.set kk cs).flatten := by
    rw [h8]; simpa using flatten_setK h3 hk h8
  rw [hset]
  refine ⟨h.grown.trans (GrownBy.setRow _ _ _), ?_, by omega, rows.set kk cs, heap_setRow h1 _, by simpa using h2, fun r hr => ?_, fun i z hi => ?_, fun i z hi hz => ?_⟩
  · rw [show n0 + (q + 1) + 1 = n0 + q + 1 + 1 by omega, hd, List.length_append, h.len]; rfl
  · rcases List.mem_or_eq_of_mem_set hr with hr | rfl
    · exact h3 r hr
    · exact h8
  · rw [show n0 + (q + 1) + 1 = n0 + q + 1 + 1 by omega, hd] at hi
    by_cases hik : i < kk
    · rw [List.getElem?_append_left (by rw [h.len]; exact hik)] at hi
      obtain ⟨c, hc, hat⟩ := h4 i z hi
      exact ⟨c, by rw [List.getElem?_set_ne (by omega)]; exact hc, hat⟩
    · rw [List.getElem?_append_right (by rw [h.len]; omega), h.len] at hi
      have : i = kk := by
        have := (List.getElem?_eq_some_iff.1 hi).1
        simp at this; omega
      subst this
      simp at hi; subst hi
      exact ⟨cs, by rw [List.getElem?_set_self hk], hcs⟩
  · obtain ⟨c, hc, hat⟩ := h5 i z (by omega) hz
    exact ⟨c, by rw [List.getElem?_set_ne (by omega)]; exact hc, hat⟩

/-- what is kept is a row of its own -/
theorem MidG.finish {α : Type} {R : Rep α} {c : α → α → Int} {S : Nat → Prop} {w wr w' : World} {base g cap : Nat} {T : TypeId} {l : List α} {n0 kk q : Nat} (h : MidG R c S w g cap T l n0 kk q wr) (hq : n0 + q + 1 = l.length) (hg : base ≤ g) (hcap : l.length ≤ cap) (hcm : cap ≤ maxLen)
    (hgl : g < w.heap.size) (hS : ∀ b, S b → base ≤ b ∧ b < w.heap.size ∧ b ≠ g) (zs : List Value) (hz : zs.length = (l.length - kk) * R.size) {cur : Array Value} (hcur : wr.heap[g]? = some (.cells cur T (0, 0)))
    (hw : w' = wr.setRow g (cur.toList.take (kk * R.size) ++ zs ++ cur.toList.drop (kk * R.size + zs.length)).toArray) :
    ∃ xs', w'.ownsRow base T R.size (.slice (some ⟨g, 0, none⟩) kk cap) (dedup c l).length xs' ∧ R.Flat (Made base w' (.slice (some ⟨g, 0, none⟩) kk cap)) w' (dedup c l) xs' ∧ Below base w w' ∧ w.drawn ≤ w'.drawn := by
  have hgr := h.grown
  obtain ⟨rows, h1, h2, h3, h4, h5⟩ := h.rows
  have hlen := h.len
  have hle := h.le
  rw [hq, List.take_length] at hlen h4
  rw [h1] at hcur
  injection hcur with hcur
  injection hcur with hcur
  subst hcur
  have hgr' : GrownBy w w' (some g) := by rw [hw]; exact hgr.trans (GrownBy.setRow _ _ _)
  have hh := heap_setRow h1 (rows.flatten.toArray.toList.take (kk * R.size) ++ zs ++ rows.flatten.toArray.toList.drop (kk * R.size + zs.length)).toArray
  rw [← hw] at hh
  have hfl := flatten_lengthK h3
  have m1 : kk * R.size ≤ l.length * R.size := Nat.mul_le_mul_right _ (by omega)
  have m2 : l.length * R.size ≤ cap * R.size := Nat.mul_le_mul_right _ hcap
  rw [Nat.sub_mul] at hz
  rw [h2] at hfl
  refine ⟨rows.flatten.take (kk * R.size), ⟨by rw [List.length_take, hfl, hlen]; omega, .inr ⟨g, cap, _, by rw [hlen], hg, hh, by omega, hcm, ?_, ?_⟩⟩, ?_, ⟨hgr'.os, hgr'.tape, hgr'.output, hgr'.size, fun b hb => hgr'.block b ?_ ?_⟩, hgr'.drawn⟩
  · simp only [List.size_toArray, List.length_append, List.length_take, List.length_drop, hfl, hz]; omega
  · rw [hlen]
    dsimp only
    rw [List.append_assoc, List.take_append_of_le_length (by rw [List.length_take, hfl]; omega), List.take_of_length_le (by rw [List.length_take, hfl]; omega)]
  · rw [← flatten_takeK h3]
    have hal : Alike S w w' := fun b hb => hgr'.block b (hS b hb).2.1 (fun e => by injection e with e; exact (hS b hb).2.2 e)
    have key : ∀ (d : List α) (rs : List (List Value)), rs.length = d.length → (∀ (i : Nat) (x : α), d[i]? = some x → ∃ cs, rs[i]? = some cs ∧ R.At S w x cs) → R.Flat S w' d rs.flatten := by
      intro d
      induction d with
      | nil => intro rs hr _; have : rs = [] := List.eq_nil_of_length_eq_zero hr; subst this; rfl
      | cons x r ih =>
        intro rs hr hd
        cases rs with
        | nil => simp at hr
        | cons c cs =>
          obtain ⟨c', hc', hat⟩ := hd 0 x rfl
          simp at hc'; subst hc'
          exact ⟨c, cs.flatten, by simp, R.alike hat hal, ih cs (by simpa using hr) fun i y hy => by simpa using hd (i + 1) y (by simpa using hy)⟩
    refine (key (dedup c l) (rows.take kk) (by rw [List.length_take, hlen]; omega) fun i x hi => ?_).mono fun b hb => ⟨(hS b hb).1, Nat.lt_of_lt_of_le (hS b hb).2.1 hgr'.size, fun e => (hS b hb).2.2 (by injection e with e; exact e.symm)⟩
    have hik : i < kk := by rw [← hlen]; exact (List.getElem?_eq_some_iff.1 hi).1
    rw [List.getElem?_take, if_pos hik]
    exact h4 i x hi
  · omega
  · intro e; injection e with e; omega

end Go.Proofs.Ytpkgkabcikmopaa
