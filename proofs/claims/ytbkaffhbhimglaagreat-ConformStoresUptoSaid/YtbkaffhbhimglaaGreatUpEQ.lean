/-
  What is above what over any number of steps; what a marking that goes upwards leaves. No program in sight. The conditions: none (definitions and lemmas).
-/
import Derived.Test.YtbkaffhbhimglaaGreatGi
namespace Go.Proofs.YtbkaffhbhimglaaGreat
inductive UpTo (l : List Ent) : Uid → Uid → Prop
 | one {u v : Uid} : Above l u v → UpTo l u v
 | more {u v q : Uid} : UpTo l u v → Above l v q → UpTo l u q
theorem UpTo.trans {l : List Ent} {u v q : Uid} (h : UpTo l u v) (k : UpTo l v q) : UpTo l u q := by
 induction k with
 | one h1 => exact h.more h1
 | more _ h1 ih => exact ih.more h1
theorem UpTo.names {l : List Ent} {u q : Uid} (h : UpTo l u q) : u ∈ l.map Ent.uid ∧ q ∈ l.map Ent.uid := by
 induction h with
 | one h1 => obtain ⟨e, he, rfl, _, h2⟩ := h1; exact ⟨List.mem_map.2 ⟨e, he, rfl⟩, h2⟩
 | more _ h1 ih => obtain ⟨e, he, _, _, h2⟩ := h1; exact ⟨ih.1, h2⟩
theorem upTo_via {l : List Ent} (hn : (l.map Ent.uid).Nodup) {a b : Nat} {u v : Uid} (ha : (l.map Ent.uid)[a]? = some u) (hb : (l.map Ent.uid)[b]? = some v) : UpTo l u v ↔ Via (EdgeN l) l.length a b := by
 have key1 : ∀ (k a b : Nat) (u v : Uid), (l.map Ent.uid)[a]? = some u → (l.map Ent.uid)[b]? = some v → Via (EdgeN l) k a b → UpTo l u v := by
  intro k
  induction k with
  | zero =>
   intro a b u v ha hb h
   rw [List.getElem?_map] at ha hb
   obtain ⟨e, he, rfl⟩ := Option.map_eq_some_iff.1 ha
   obtain ⟨f, hf, rfl⟩ := Option.map_eq_some_iff.1 hb
   exact .one ((above_iff hn he hf).1 h)
  | succ k ih =>
   intro a b u v ha hb h
   rcases h with h | ⟨h1, h2⟩
   ·exact ih a b u v ha hb h
   ·have hk := (Via.lt EdgeN.lt h1).2
    obtain ⟨q, hq⟩ : ∃ q, (l.map Ent.uid)[k]? = some q := ⟨_, List.getElem?_eq_getElem (by simpa using hk)⟩
    exact (ih a k u q ha hq h1).trans (ih k b q v hq hb h2)
 refine ⟨fun h => ?_, key1 _ a b u v ha hb⟩
 induction h generalizing b with
 | one h1 =>
  have ha' := ha
  have hb' := hb
  rw [List.getElem?_map] at ha' hb'
  obtain ⟨e, he, rfl⟩ := Option.map_eq_some_iff.1 ha'
  obtain ⟨f, hf, rfl⟩ := Option.map_eq_some_iff.1 hb'
  exact Via.edge ((above_iff hn he hf).2 h1)
 | @more v q h0 h1 ih =>
  obtain ⟨c, hc⟩ := List.mem_iff_getElem?.1 h0.names.2
  have h2 := ih hc
  have hc' := hc
  have hb' := hb
  rw [List.getElem?_map] at hc' hb'
  obtain ⟨e, he, rfl⟩ := Option.map_eq_some_iff.1 hc'
  obtain ⟨f, hf, rfl⟩ := Option.map_eq_some_iff.1 hb'
  exact Via.trans (by have := (List.getElem?_eq_some_iff.1 hc).1; simpa using this) h2 (Via.edge ((above_iff hn he hf).2 h1))
/-! ### marking -/
structure Marked (c : List Ent) (s : Uid) (k : Nat) (e : Ent) (m m' : Uid → Bool) : Prop where
 old : ∀ q, m q = true → m' q = true
 par : ∀ (i : Nat) (p : Uid), i < k → e.ps[i]? = some p → m' p = true
 new : ∀ q, m' q = true → m q = true ∨ (UpTo c s q ∧ ∀ r, Above c q r → m' r = true)
theorem Marked.step {c : List Ent} (hn : (c.map Ent.uid).Nodup) {s : Uid} {k : Nat} {e f : Ent} {m m' m2 : Uid → Bool} (h : Marked c s k e m m') {p : Uid} (hp : e.ps[k]? = some p) (hf : f ∈ c) (hfp : f.uid = p) (hup : UpTo c s p)
  (h2 : Marked c p f.ps.length f (fun q => decide (q = p) || m' q) m2) : Marked c s (k + 1) e m m2 := by
 have hp2 : m2 p = true := h2.old p (by simp)
 have hold : ∀ q, m' q = true → m2 q = true := fun q hq => h2.old q (by simp [hq])
 refine ⟨fun q hq => hold q (h.old q hq), fun i q hi hq => ?_, fun q hq => ?_⟩
 ·by_cases he : i = k
  ·subst he; rw [hp] at hq; cases hq; exact hp2
  ·exact hold q (h.par i q (by omega) hq)
 ·rcases h2.new q hq with h3 | ⟨h3, h4⟩
  ·simp only [Bool.or_eq_true, decide_eq_true_eq] at h3
   rcases h3 with rfl | h3
   ·refine .inr ⟨hup, fun r hr => ?_⟩
    obtain ⟨g, hg, hgu, hgr, _⟩ := hr
    have : g = f := by
     have hu : g.uid = f.uid := by rw [hgu, hfp]
     exact byUid_eq hn hg hf (by unfold cmpE; rw [hu]; exact ordU_self _)
    subst this
    obtain ⟨i, hi⟩ := List.mem_iff_getElem?.1 hgr
    exact h2.par i r (List.getElem?_eq_some_iff.1 hi).1 hi
   ·rcases h.new q h3 with h4 | ⟨h4, h5⟩
    ·exact .inl h4
    ·exact .inr ⟨h4, fun r hr => hold r (h5 r hr)⟩
  ·exact .inr ⟨hup.trans h3, h4⟩
theorem Marked.all {c : List Ent} (hn : (c.map Ent.uid).Nodup) {e : Ent} (he : e ∈ c) (hpar : ∀ p ∈ e.ps, p ∈ c.map Ent.uid) {m m' : Uid → Bool} (hm : ∀ q, m q = false) (h : Marked c e.uid e.ps.length e m m') (q : Uid) : m' q = true ↔ UpTo c e.uid q := by
 constructor
 ·intro hq
  rcases h.new q hq with h1 | h1
  ·rw [hm q] at h1; cases h1
  ·exact h1.1
 ·intro hq
  have hfirst : ∀ v, Above c e.uid v → m' v = true := fun v hv => by
   obtain ⟨g, hg, hgu, hgv, _⟩ := hv
   have : g = e := byUid_eq hn hg he (by unfold cmpE; rw [hgu]; exact ordU_self _)
   subst this
   obtain ⟨i, hi⟩ := List.mem_iff_getElem?.1 hgv
   exact h.par i v (List.getElem?_eq_some_iff.1 hi).1 hi
  generalize hs : e.uid = s at hq hfirst
  induction hq with
  | one h1 => exact hfirst _ h1
  | more _ h1 ih =>
   rcases h.new _ ih with h2 | ⟨_, h2⟩
   ·rw [hm] at h2; cases h2
   ·exact h2 _ h1
end Go.Proofs.YtbkaffhbhimglaaGreat
