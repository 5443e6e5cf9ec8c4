/-
  A row of entities that a call makes itself, each with a row of parents of its own: laid, added to, written. The conditions: none.
-/
import Derived.Test.YtjllolagcdjlnaaGreatGf
namespace Go.Proofs.YtjllolagcdjlnaaGreat
open Go.RowKit

/-! ### a row of entities that a call makes itself, each with a row of parents -/
def chainCells (es : List Ent) (pvs : List Value) : List Value := ((es.zip pvs).map fun p => entCells p.1.uid p.2 recC).flatten
structure Chain (base : Nat) (W : World) (v : Value) (es : List Ent) (pvs : List Value) : Prop where
  len : pvs.length = es.length
  row : W.ownsRow base 37 11 v es.length (chainCells es pvs)
  fit : ∀ e ∈ es, FitU e.uid ∧ e.av = recV ∧ e.ps.length ≤ 2
  pars : ∀ (i : Nat) (e : Ent) (pv : Value), es[i]? = some e → pvs[i]? = some pv → ∃ xs, W.ownsRow base 31 2 pv e.ps.length xs ∧ uidR.Flat (fun _ => True) W e.ps xs
  apart : ∀ (i j : Nat) (p q : Value) (b : Nat), pvs[i]? = some p → pvs[j]? = some q → p.ownBlock = some b → q.ownBlock = some b → i = j

theorem Chain.nil (base : Nat) (W : World) : Chain base W (.slice none 0 0) [] [] :=
  ⟨rfl, World.ownsRow_nil _ _ _ _, fun _ h => by simp at h, fun _ _ _ h => by simp at h, fun _ _ _ _ _ h => by simp at h⟩
theorem Chain.later {base : Nat} {W W' : World} {v : Value} {es : List Ent} {pvs : List Value} (h : Chain base W v es pvs) (k : Ext W W') : Chain base W' v es pvs :=
  ⟨h.len, ownsRow_ext h.row k, h.fit, fun i e pv he hp => let ⟨xs, h1, h2⟩ := h.pars i e pv he hp; ⟨xs, ownsRow_ext h1 k, uidFlat_any h2⟩, h.apart⟩
theorem ne6023 : (37 : TypeId) ≠ 31 := by decide

theorem Chain.push {base : Nat} {wr W1 W2 w2 : World} {v v' : Value} {es : List Ent} {pvs : List Value} {e : Ent} {pv : Value} {xs : List Value} (h : Chain base wr v es pvs) (h1 : Ext wr W1) (h2 : Ext W1 W2) (hfit : FitU e.uid ∧ e.av = recV ∧ e.ps.length ≤ 2)
    (hown : W1.ownsRow base 31 2 pv e.ps.length xs) (hf : uidR.Flat (fun _ => True) W1 e.ps xs) (hnew : ∀ b, pv.ownBlock = some b → wr.heap.size ≤ b)
    (hrow : w2.ownsRow base 37 11 v' (es.length + 1) (chainCells es pvs ++ entCells e.uid pv recC)) (hg : GrownBy W2 w2 v.ownBlock) : Chain base w2 v' (es ++ [e]) (pvs ++ [pv]) := by
  have hlen := h.len
  refine ⟨by simp [hlen], ?_, fun x hx => ?_, fun i x q hx hq => ?_, fun i j p q b hp hq hb hc => ?_⟩
  · rw [List.length_append, List.length_singleton]
    have : chainCells (es ++ [e]) (pvs ++ [pv]) = chainCells es pvs ++ entCells e.uid pv recC := by
      unfold chainCells
      rw [List.zip_append hlen.symm]
      simp
    rw [this]; exact hrow
  · rcases List.mem_append.1 hx with hx | hx
    · exact h.fit x hx
    · simp at hx; subst hx; exact hfit
  · by_cases hi : i < es.length
    · rw [List.getElem?_append_left hi] at hx
      rw [List.getElem?_append_left (by omega)] at hq
      obtain ⟨ys, o1, o2⟩ := h.pars i x q hx hq
      exact ⟨ys, ownsRow_apart (ownsRow_ext o1 (h1.trans h2)) hg fun b hb hc => row_types h.row o1 ne6023 hc hb, uidFlat_any o2⟩
    · rw [List.getElem?_append_right (by omega)] at hx
      rw [List.getElem?_append_right (by omega)] at hq
      have hi0 : i = es.length := by
        have := (List.getElem?_eq_some_iff.1 hx).1
        simp at this; omega
      subst hi0
      simp at hx; subst hx
      rw [show es.length - pvs.length = 0 by omega] at hq
      simp at hq; subst hq
      exact ⟨xs, ownsRow_apart (ownsRow_ext hown h2) hg fun b hb hc => by have := hnew b hb; have := (h.row.lt b hc).2; omega, uidFlat_any hf⟩
  · have key : ∀ (i : Nat) (p : Value) (b : Nat), (pvs ++ [pv])[i]? = some p → p.ownBlock = some b → (i < pvs.length ∧ pvs[i]? = some p ∧ b < wr.heap.size) ∨ (i = pvs.length ∧ wr.heap.size ≤ b) := fun i p b hp hb => by
      by_cases hi : i < pvs.length
      · rw [List.getElem?_append_left hi] at hp
        obtain ⟨x, hx⟩ : ∃ x, es[i]? = some x := ⟨_, List.getElem?_eq_getElem (by omega)⟩
        obtain ⟨ys, o1, _⟩ := h.pars i x p hx hp
        exact .inl ⟨hi, hp, (o1.lt b hb).2⟩
      · rw [List.getElem?_append_right (by omega)] at hp
        have hi0 : i = pvs.length := by
          have := (List.getElem?_eq_some_iff.1 hp).1
          simp at this; omega
        subst hi0
        simp at hp; subst hp
        exact .inr ⟨rfl, hnew b hb⟩
    rcases key i p b hp hb with ⟨_, h5, h6⟩ | ⟨h5, h6⟩
    · rcases key j q b hq hc with ⟨_, h7, h8⟩ | ⟨h7, h8⟩
      · exact h.apart i j p q b h5 h7 hb hc
      · omega
    · rcases key j q b hq hc with ⟨_, h7, h8⟩ | ⟨h7, h8⟩
      · omega
      · omega

/-- one cell of an owned row, stored -/
theorem ownsRow_set {w : World} {base : Nat} {e : TypeId} {size n g cap : Nat} {xs : List Value} (h : w.ownsRow base e size (.slice (some ⟨g, 0, none⟩) n cap) n xs) {j : Nat} (_hj : j < xs.length) (u : Value) : (w.setCell ⟨g, j, none⟩ u).ownsRow base e size (.slice (some ⟨g, 0, none⟩) n cap) n (xs.set j u) := by
  obtain ⟨h1, hv⟩ := h
  rcases hv with ⟨hv, _⟩ | ⟨g', cap', cur, hv, hg, hh, hnc, hcm, hcur, htake⟩
  · cases hv
  · injection hv with e1 _ e3
    injection e1 with e1
    injection e1 with e1 _
    subst e1 e3
    refine ⟨by simpa using h1, .inr ⟨_, _, _, rfl, hg, heap_setCell_at hh j u, hnc, hcm, by simpa using hcur, ?_⟩⟩
    rw [Array.toList_setIfInBounds, List.take_set, htake]

theorem flatten_cell {sz : Nat} : ∀ {rows : List (List Value)} {i j : Nat} {r : List Value} {u : Value}, (∀ r ∈ rows, r.length = sz) → rows[i]? = some r → j < sz → rows.flatten.set (i * sz + j) u = (rows.set i (r.set j u)).flatten
  | [], _, _, _, _, _, h, _ => by simp at h
  | r :: rs, 0, j, _, u, hl, h, _hj => by
    simp at h; subst h
    have h8 := hl r (by simp)
    rw [List.flatten_cons, Nat.zero_mul, Nat.zero_add, List.set_append_left _ _ (by omega)]
    simp
  | r :: rs, i + 1, j, r', u, hl, h, hj => by
    have h8 := hl r (by simp)
    rw [List.flatten_cons, Nat.succ_mul, List.set_append_right _ _ (by omega), show i * sz + sz + j - r.length = i * sz + j by omega, flatten_cell (rows := rs) (i := i) (r := r') (fun x hx => hl x (by simp [hx])) (by simpa using h) hj]
    simp
theorem chainCells_rows (es : List Ent) (pvs : List Value) : ∀ r ∈ (es.zip pvs).map (fun p => entCells p.1.uid p.2 recC), r.length = 11 := fun r hr => by
  obtain ⟨p, _, rfl⟩ := List.mem_map.1 hr
  rfl
theorem chainCells_set {es : List Ent} {pvs : List Value} (hl : pvs.length = es.length) {i : Nat} {e : Ent} (he : es[i]? = some e) (ps : List Uid) (pv : Value) : (chainCells es pvs).set (i * 11 + 2) pv = chainCells (es.set i { e with ps := ps }) (pvs.set i pv) := by
  have hi := (List.getElem?_eq_some_iff.1 he).1
  obtain ⟨q, hq⟩ : ∃ q, pvs[i]? = some q := ⟨_, List.getElem?_eq_getElem (by omega)⟩
  have hz : ((es.zip pvs).map fun p => entCells p.1.uid p.2 recC)[i]? = some (entCells e.uid q recC) := by
    rw [List.getElem?_map, (List.getElem?_zip_eq_some (z := (e, q))).2 ⟨he, hq⟩]; rfl
  unfold chainCells
  rw [flatten_cell (chainCells_rows es pvs) hz (by decide)]
  congr 1
  apply List.ext_getElem?
  intro j
  by_cases hj : j = i
  · subst hj
    rw [List.getElem?_set_self (by simp; omega), List.getElem?_map, (List.getElem?_zip_eq_some (z := ({ e with ps := ps }, pv))).2 ⟨List.getElem?_set_self hi, List.getElem?_set_self (by omega)⟩]
    rfl
  · rw [List.getElem?_set_ne (Ne.symm hj), List.getElem?_map, List.getElem?_map]
    congr 1
    cases h1 : (es.zip pvs)[j]? with
    | none =>
      symm
      rw [List.getElem?_eq_none_iff] at h1 ⊢
      simpa using h1
    | some p =>
      obtain ⟨a, b⟩ := p
      obtain ⟨ha, hb⟩ := List.getElem?_zip_eq_some.1 h1
      symm
      exact List.getElem?_zip_eq_some.2 ⟨by rw [List.getElem?_set_ne (Ne.symm hj)]; exact ha, by rw [List.getElem?_set_ne (Ne.symm hj)]; exact hb⟩

theorem Chain.slice_len {base g n cap : Nat} {w : World} {es : List Ent} {pvs : List Value} (h : Chain base w (.slice (some ⟨g, 0, none⟩) n cap) es pvs) : n = es.length := by
  obtain ⟨_, hv⟩ := h.row
  rcases hv with ⟨hv, _⟩ | ⟨g', cap', cur, hv, _⟩
  · cases hv
  · injection hv
theorem Chain.write {base g n cap : Nat} {w w' : World} {es : List Ent} {pvs : List Value} (h : Chain base w (.slice (some ⟨g, 0, none⟩) n cap) es pvs) {i : Nat} {e : Ent} {pv : Value} (he : es[i]? = some e) (hp : pvs[i]? = some pv) {r : Option Nat} (hg : GrownBy w w' r) (hr : r = none ∨ r = pv.ownBlock)
    {pv' : Value} {ps : List Uid} {xs : List Value} (hps : ps.length ≤ 2) (hown : w'.ownsRow base 31 2 pv' ps.length xs) (hf : uidR.Flat (fun _ => True) w' ps xs) (hnew : ∀ b, pv'.ownBlock = some b → pv.ownBlock = some b ∨ w.heap.size ≤ b) :
    Chain base (w'.setCell ⟨g, i * 11 + 2, none⟩ pv') (.slice (some ⟨g, 0, none⟩) n cap) (es.set i { e with ps := ps }) (pvs.set i pv') := by
  obtain rfl := h.slice_len
  have hl := h.len
  have hi := (List.getElem?_eq_some_iff.1 he).1
  have hcl : (chainCells es pvs).length = es.length * 11 := by simpa using h.row.1
  obtain ⟨ys0, o0, _⟩ := h.pars i e pv he hp
  have hrow' : w'.ownsRow base 37 11 (.slice (some ⟨g, 0, none⟩) es.length cap) es.length (chainCells es pvs) := ownsRow_apart h.row hg fun b hb e' => by
    rcases hr with rfl | rfl
    · cases e'
    · exact row_types h.row o0 ne6023 hb e'
  have hgl := (h.row.lt g rfl)
  have g2 := GrownBy.setCell w' g (i * 11 + 2) pv'
  refine ⟨by simp [hl], ?_, fun x hx => ?_, fun j x q hx hq => ?_, fun j k p q b hp1 hq1 hb hc => ?_⟩
  · rw [List.length_set, ← chainCells_set hl he ps pv']
    exact ownsRow_set hrow' (by omega) pv'
  · rcases List.mem_or_eq_of_mem_set hx with hx | rfl
    · exact h.fit x hx
    · have := h.fit e (List.mem_of_getElem? he)
      exact ⟨this.1, this.2.1, hps⟩
  · by_cases hj : j = i
    · subst hj
      rw [List.getElem?_set_self hi] at hx
      rw [List.getElem?_set_self (by omega)] at hq
      obtain rfl := Option.some.inj hx
      obtain rfl := Option.some.inj hq
      exact ⟨xs, ownsRow_apart hown g2 fun b hb e' => row_types hrow' hown ne6023 (by injection e' with e'; subst e'; rfl) hb, uidFlat_any hf⟩
    · rw [List.getElem?_set_ne (Ne.symm hj)] at hx hq
      obtain ⟨ys, o1, o2⟩ := h.pars j x q hx hq
      have o3 := ownsRow_apart o1 hg fun b hb e' => by
        rcases hr with rfl | rfl
        · cases e'
        · exact hj (h.apart j i q pv b hq hp hb e')
      exact ⟨ys, ownsRow_apart o3 g2 fun b hb e' => row_types hrow' o3 ne6023 (by injection e' with e'; subst e'; rfl) hb, uidFlat_any o2⟩
  · have key : ∀ (j : Nat) (p : Value) (b : Nat), (pvs.set i pv')[j]? = some p → p.ownBlock = some b → (j ≠ i ∧ pvs[j]? = some p ∧ b < w.heap.size) ∨ (j = i ∧ (pv.ownBlock = some b ∨ w.heap.size ≤ b)) := fun j p b hp1 hb => by
      by_cases hj : j = i
      · subst hj
        rw [List.getElem?_set_self (by omega)] at hp1
        obtain rfl := Option.some.inj hp1
        exact .inr ⟨rfl, hnew b hb⟩
      · rw [List.getElem?_set_ne (Ne.symm hj)] at hp1
        obtain ⟨x, hx⟩ : ∃ x, es[j]? = some x := ⟨_, List.getElem?_eq_getElem (by have := (List.getElem?_eq_some_iff.1 hp1).1; omega)⟩
        obtain ⟨ys, o1, _⟩ := h.pars j x p hx hp1
        exact .inl ⟨hj, hp1, (o1.lt b hb).2⟩
    rcases key j p b hp1 hb with ⟨h1, h2, h3⟩ | ⟨h1, h2⟩
    · rcases key k q b hq1 hc with ⟨h4, h5, h6⟩ | ⟨h4, h5⟩
      · exact h.apart j k p q b h2 h5 hb hc
      · rcases h5 with h5 | h5
        · exact absurd (h.apart j i p pv b h2 hp hb h5) h1
        · omega
    · rcases key k q b hq1 hc with ⟨h4, h5, h6⟩ | ⟨h4, h5⟩
      · rcases h2 with h2 | h2
        · exact absurd (h.apart k i q pv b h5 hp hc h2) h4
        · omega
      · omega

/-- such a row is a row of entities -/
theorem Chain.flat {base : Nat} {W : World} {v : Value} {es : List Ent} {pvs : List Value} (h : Chain base W v es pvs) : entR.Flat (fun b => b < W.heap.size) W es (chainCells es pvs) := by
  have key : ∀ (es : List Ent) (pvs : List Value), pvs.length = es.length → (∀ e ∈ es, FitU e.uid ∧ e.av = recV ∧ e.ps.length ≤ 2) → (∀ (i : Nat) (e : Ent) (pv : Value), es[i]? = some e → pvs[i]? = some pv → uidR.RowsAt (fun b => b < W.heap.size) W e.ps pv) → entR.Flat (fun b => b < W.heap.size) W es (chainCells es pvs) := by
    intro es
    induction es with
    | nil => intro pvs _ _ _; simp [chainCells, Rep.Flat]
    | cons e r ih =>
      intro pvs hl hf hp
      cases pvs with
      | nil => simp at hl
      | cons q qs =>
        have hfe := hf e (by simp)
        refine ⟨entCells e.uid q recC, chainCells r qs, by simp [chainCells], ⟨q, recC, rfl, hfe.1, hp 0 e q rfl rfl, by rw [hfe.2.1]; exact recV_at _ _⟩, ih qs (by simpa using hl) (fun x hx => hf x (by simp [hx])) fun i x y hx hy => hp (i + 1) x y (by simpa using hx) (by simpa using hy)⟩
  refine key es pvs h.len h.fit fun i e pv he hp => ?_
  obtain ⟨xs, o1, o2⟩ := h.pars i e pv he hp
  exact own_rows (R := uidR) o1 (uidFlat_any (S' := fun _ => False) o2) (by have := (h.fit e (List.mem_of_getElem? he)).2.2; rw [LIM_eq]; omega) (fun b hb => hb.elim) fun b hb => (o1.lt b hb).2
theorem Rep.Flat.take_drop {α : Type} {R : Rep α} {S : Nat → Prop} {w : World} : ∀ {l : List α} {xs : List Value} (n : Nat), R.Flat S w l xs → R.Flat S w (l.take n) (xs.take (n * R.size)) ∧ R.Flat S w (l.drop n) (xs.drop (n * R.size))
  | l, xs, 0, h => by simp [Rep.Flat]; exact h
  | [], xs, n + 1, h => by simp only [Rep.Flat] at h; subst h; simp [Rep.Flat]
  | x :: r, xs, n + 1, ⟨c, ys, e, hv, hr⟩ => by
    subst e
    have hl := R.len hv
    obtain ⟨h1, h2⟩ := Rep.Flat.take_drop n hr
    rw [Nat.succ_mul]
    constructor
    · rw [List.take_succ_cons, List.take_append, List.take_of_length_le (l := c) (by omega), show n * R.size + R.size - c.length = n * R.size by omega]
      exact ⟨c, _, rfl, hv, h1⟩
    · rw [List.drop_succ_cons, List.drop_append, show c.drop (n * R.size + R.size) = [] from List.drop_eq_nil_of_le (by omega), List.nil_append, show n * R.size + R.size - c.length = n * R.size by omega]
      exact h2

theorem flatten_at {sz : Nat} : ∀ {rows : List (List Value)} {i j : Nat} {r : List Value} {u : Value}, (∀ r ∈ rows, r.length = sz) → rows[i]? = some r → r[j]? = some u → rows.flatten[i * sz + j]? = some u := fun h1 h2 h3 => flatten_getK h1 h2 h3
theorem row_cell {base g n cap : Nat} {W : World} {es : List Ent} {pvs : List Value} (hrow : W.ownsRow base 37 11 (.slice (some ⟨g, 0, none⟩) n cap) es.length (chainCells es pvs)) {i : Nat} {e : Ent} {pv : Value} (he : es[i]? = some e) (hp : pvs[i]? = some pv) : W.cell? ⟨g, i * 11 + 2, none⟩ = some pv ∧ W.frozen? ⟨g, i * 11 + 2, none⟩ = false ∧ g < W.heap.size := by
  have hz : ((es.zip pvs).map fun p => entCells p.1.uid p.2 recC)[i]? = some (entCells e.uid pv recC) := by
    rw [List.getElem?_map, (List.getElem?_zip_eq_some (z := (e, pv))).2 ⟨he, hp⟩]; rfl
  have hc : (chainCells es pvs)[i * 11 + 2]? = some pv := flatten_at (chainCells_rows es pvs) hz rfl
  have hi := (List.getElem?_eq_some_iff.1 he).1
  obtain ⟨hx, hv⟩ := hrow
  rcases hv with ⟨hv, _⟩ | ⟨g', cap', cur, hv, hg, hh, hnc, hcm, hcur, htake⟩
  · cases hv
  · injection hv with e1 _ e3
    injection e1 with e1
    injection e1 with e1 _
    subst e1 e3
    refine ⟨?_, frozen_of_row _ _ _ _ _ hh, Blk_lt hh⟩
    rw [cell_of_row _ _ _ _ _ _ hh]
    rw [← htake, List.getElem?_take] at hc
    split at hc
    · simpa using hc
    · cases hc
theorem Chain.cell {base g n cap : Nat} {W : World} {es : List Ent} {pvs : List Value} (h : Chain base W (.slice (some ⟨g, 0, none⟩) n cap) es pvs) {i : Nat} {e : Ent} {pv : Value} (he : es[i]? = some e) (hp : pvs[i]? = some pv) : W.cell? ⟨g, i * 11 + 2, none⟩ = some pv ∧ W.frozen? ⟨g, i * 11 + 2, none⟩ = false ∧ g < W.heap.size :=
  row_cell h.row he hp
theorem Chain.cell' {base g n cap : Nat} {W W' : World} {es : List Ent} {pvs : List Value} (h : Chain base W (.slice (some ⟨g, 0, none⟩) n cap) es pvs) {i : Nat} {e : Ent} {pv : Value} (he : es[i]? = some e) (hp : pvs[i]? = some pv) (hg : GrownBy W W' pv.ownBlock) : W'.cell? ⟨g, i * 11 + 2, none⟩ = some pv ∧ W'.frozen? ⟨g, i * 11 + 2, none⟩ = false ∧ g < W'.heap.size := by
  obtain ⟨_, o0, _⟩ := h.pars i e pv he hp
  exact row_cell (ownsRow_apart h.row hg fun _ hb e' => row_types h.row o0 ne6023 hb e') he hp

theorem own_new {w : World} {base : Nat} {T : TypeId} {size n g : Nat} {xs : List Value} (h : w.heap[g]? = some (.cells xs.toArray T (0, 0))) (hb : base ≤ g) (hl : xs.length = n * size) (hn : n ≤ 1048576) : w.ownsRow base T size (.slice (some ⟨g, 0, none⟩) n n) n xs :=
  ⟨hl, .inr ⟨g, n, _, rfl, hb, h, Nat.le_refl _, by rw [maxLen_eq]; omega, by simpa using hl, by rw [← hl]; simp⟩⟩
theorem entN_mid {k j : Nat} (h : j + 1 < k) : entN k false false j = ⟨uN j, [uN (j + 1)], recV⟩ := by simp [entN, psN, h]
theorem entN_end {k j : Nat} (h : ¬ j + 1 < k) : entN k false false j = ⟨uN j, [], recV⟩ := by simp [entN, psN, h]

theorem esN_close {j : Nat} (h : 0 < j) : (esN j false false).set (j - 1) { (⟨uN (j - 1), [], recV⟩ : Ent) with ps := [uA] } = esN j true false := by
  apply List.ext_getElem?
  intro i
  by_cases hi : i < j
  · by_cases he : i = j - 1
    · subst he
      rw [List.getElem?_set_self (by rw [esN_length]; omega), esN_get hi]
      simp [entN, psN, show ¬ j - 1 + 1 < j by omega, uA]
    · rw [List.getElem?_set_ne (Ne.symm he), esN_get hi, esN_get hi]
      simp [entN, psN, show i + 1 < j by omega]
  · rw [List.getElem?_eq_none (by simp [esN_length]; omega), List.getElem?_eq_none (by simp [esN_length]; omega)]
theorem esN_missing (j : Nat) (c : Bool) : (esN j c false).set 0 { entN j c false 0 with ps := psN j c false 0 ++ [(tV, empty)] } = esN j c true := by
  apply List.ext_getElem?
  intro i
  by_cases hi : i < j
  · by_cases he : i = 0
    · subst he
      rw [List.getElem?_set_self (by rw [esN_length]; omega), esN_get hi]
      simp [entN, psN]
    · rw [List.getElem?_set_ne (Ne.symm he), esN_get hi, esN_get hi]
      simp [entN, psN, he]
  · rw [List.getElem?_eq_none (by simp [esN_length]; omega), List.getElem?_eq_none (by simp [esN_length]; omega)]

theorem Chain.base_row {base g n cap : Nat} {W : World} {es : List Ent} {pvs : List Value} (h : Chain base W (.slice (some ⟨g, 0, none⟩) n cap) es pvs) (hn : 0 < n) : CellsAt W g 0 (chainCells es pvs) ∧ (chainCells es pvs).length = n * 11 := by
  have hl := h.slice_len
  subst hl
  obtain ⟨g', c', e', _, _, _, hc⟩ := own_cells h.row hn
  injection e' with e' _ _
  injection e' with e'
  injection e' with e' _
  subst e'
  exact ⟨hc, by simpa using h.row.1⟩
/-- such a row, turned into one of one's own -/
theorem turn_rows {base a : Nat} {W W3 : World} {v v2 : Value} {es : List Ent} {pvs : List Value} (h : Chain base W v es pvs) (hx : Ext W W3) (hs : es.length ≤ 12) (hown : W3.ownsRow W.heap.size 37 11 v2 es.length ((chainCells es pvs).drop (a * 11) ++ (chainCells es pvs).take (a * 11))) :
    entR.RowsAt (fun b => b < W3.heap.size) W3 (turned a es) v2 := by
  have hl : (turned a es).length = es.length := (turned_perm a es).length_eq
  have hf := h.flat.take_drop a
  have ht : entR.Flat (fun b => b < W.heap.size) W (turned a es) ((chainCells es pvs).drop (a * 11) ++ (chainCells es pvs).take (a * 11)) := hf.2.append hf.1
  refine own_rows (R := entR) (by rw [hl]; exact hown) (ht.alike fun b hb => hx.block b hb) (by rw [hl, LIM_eq]; omega) (fun b hb => by have := hx.size; omega) fun b hb => (hown.lt b hb).2
theorem turned_small {j a : Nat} {c m : Bool} : (∀ e ∈ turned a (esN j c m), e.ps.length ≤ 1048576) ∧ (∀ e ∈ turned a (esN j c m), e.av.dep ≤ 1000000) := by
  constructor <;> intro e he <;> rw [(turned_perm a _).mem_iff] at he <;> obtain ⟨i, hi, rfl⟩ := List.mem_map.1 he
  · have := psN_length j c m i
    show (psN j c m i).length ≤ _
    omega
  · show recV.dep ≤ _
    decide
theorem first_cell {S : Nat → Prop} {base : Nat} {W : World} {v : Value} {l : List Ent} {xs : List Value} {e : Ent} {r : List Ent} (hl : l = e :: r) (h : W.ownsRow base 37 11 v l.length xs) (hf : entR.Flat S W l xs) : ∃ g cap, v = .slice (some ⟨g, 0, none⟩) l.length cap ∧ W.cell? ⟨g, 1, none⟩ = some (.string e.uid.2) := by
  subst hl
  obtain ⟨g, cap, hv, _, _, _, hc⟩ := own_cells h (by simp)
  obtain ⟨cs, ys, rfl, ⟨pv, acs, rfl, _⟩, _⟩ := hf
  exact ⟨g, cap, hv, by simpa using hc 1 (.string e.uid.2) rfl⟩
theorem CellsAt.take {w : World} {b o : Nat} {xs : List Value} (h : CellsAt w b o xs) (n : Nat) : CellsAt w b o (xs.take n) := fun i u hi => by
  rw [List.getElem?_take] at hi
  split at hi
  · exact h i u hi
  · cases hi
theorem own_any {w : World} {base : Nat} {e : TypeId} {size n n' : Nat} {v : Value} {xs ys : List Value} (h : w.ownsRow base e size v n xs) (hn : n = n') (hx : xs = ys) : w.ownsRow base e size v n' ys := by
  subst hn hx; exact h
end Go.Proofs.YtjllolagcdjlnaaGreat
