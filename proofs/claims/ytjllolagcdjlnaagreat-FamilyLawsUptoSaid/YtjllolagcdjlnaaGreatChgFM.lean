/-
  What a call made itself, written over cell by cell: what lay before stays, the heads of the rows stay. No program in sight. The conditions: none (definitions and lemmas).
-/
import Derived.Test.YtjllolagcdjlnaaGreatGj
namespace Go.Proofs.YtjllolagcdjlnaaGreat
open Go.RowKit

/-- is a place of an entity's row one of those that the writing leaves? -/
def Head (q : Nat) : Prop := q = 2 ∨ q = 9 ∨ q = 10
structure Chg (w0 : World) (g : Nat) (W w : World) : Prop where
  ext : Ext w0 w
  shape : ∀ (b : Nat) (cur : Array Value) (T : TypeId), W.heap[b]? = some (.cells cur T (0, 0)) → ∃ cur' : Array Value, w.heap[b]? = some (.cells cur' T (0, 0)) ∧ cur'.size = cur.size
  heads : ∀ (cur cur' : Array Value) (T T' : TypeId), W.heap[g]? = some (.cells cur T (0, 0)) → w.heap[g]? = some (.cells cur' T' (0, 0)) → ∀ (i q : Nat), Head q → cur'[i * 11 + q]? = cur[i * 11 + q]?
theorem Chg.refl {w0 W : World} {g : Nat} (h : Ext w0 W) : Chg w0 g W W := ⟨h, fun _ cur _ hb => ⟨cur, hb, rfl⟩, fun _ _ _ _ h1 h2 _ _ _ => by rw [h1] at h2; cases h2; rfl⟩
theorem Chg.set {w0 W w : World} {g b off : Nat} (h : Chg w0 g W w) (v : Value) (hb : w0.heap.size ≤ b) (hne : b ≠ g ∨ ∃ i, off = i * 11 + 1) : Chg w0 g W (w.setCell ⟨b, off, none⟩ v) := by
  have hg := GrownBy.setCell w b off v
  refine ⟨ext_apart h.ext hg fun c hc => by injection hc with hc; omega, fun c cur T hc => ?_, fun cur cur' T T' h1 h2 i q hq => ?_⟩
  · obtain ⟨cur', h1, h2⟩ := h.shape c cur T hc
    by_cases hcb : c = b
    · subst hcb
      exact ⟨_, heap_setCell_at h1 off v, by simp [h2]⟩
    · exact ⟨cur', (hg.block c (Blk_lt h1) fun e => hcb (Option.some.inj e)).trans h1, h2⟩
  · obtain ⟨cw, h3, h4⟩ := h.shape g cur T h1
    rw [← h.heads cur cw T T h1 h3 i q hq]
    by_cases hcb : g = b
    · subst hcb
      rw [heap_setCell_at h3 off v] at h2
      injection h2 with h2
      injection h2 with h2 _ _
      subst h2
      obtain ⟨i', rfl⟩ := hne.resolve_left fun e => e rfl
      rw [Array.getElem?_setIfInBounds, if_neg (by rcases hq with rfl | rfl | rfl <;> omega)]
    · rw [(hg.block g (Blk_lt h3) fun e => hcb (Option.some.inj e)), h3] at h2
      cases h2; rfl
/-- a cell that may be written -/
theorem Chg.cell {w0 W w : World} {g b off base : Nat} {v : Value} (h : Chg w0 g W w) (hm : FreshU base W b) (hc : W.cell? ⟨b, off, none⟩ = some v) : ∃ u, w.cell? ⟨b, off, none⟩ = some u ∧ w.frozen? ⟨b, off, none⟩ = false ∧ b < w.heap.size := by
  obtain ⟨_, cur, T, hb⟩ := hm
  rw [cell_of_row _ _ _ _ _ _ hb] at hc
  obtain ⟨cur', h1, h2⟩ := h.shape b cur T hb
  have hl : off < cur'.size := by rw [h2]; exact (Array.getElem?_eq_some_iff.1 hc).1
  exact ⟨cur'[off], by rw [cell_of_row _ _ _ _ _ _ h1]; exact Array.getElem?_eq_getElem hl, frozen_of_row _ _ _ _ _ h1, Blk_lt h1⟩
/-- a head -/
theorem Chg.head {w0 W w : World} {g i q base : Nat} {v : Value} (h : Chg w0 g W w) (hm : FreshU base W g) (hq : Head q) (hc : W.cell? ⟨g, i * 11 + q, none⟩ = some v) : w.cell? ⟨g, i * 11 + q, none⟩ = some v := by
  obtain ⟨_, cur, T, hb⟩ := hm
  rw [cell_of_row _ _ _ _ _ _ hb] at hc
  obtain ⟨cur', h1, h2⟩ := h.shape g cur T hb
  rw [cell_of_row _ _ _ _ _ _ h1, h.heads cur cur' T T hb h1 i q hq]
  exact hc
/-- an entity of such a row: where its parts lie -/
theorem OwnD.parts {base : Nat} {W : World} {v : Value} {c : List Ent} (h : OwnD entR 37 base W v c) {i : Nat} {x : Ent} (hx : c[i]? = some x) (hk : x.av.names.length = x.av.items.length) :
    ∃ g cap, v = .slice (some ⟨g, 0, none⟩) c.length cap ∧ FreshU base W g ∧ (∃ u, W.cell? ⟨g, i * 11 + 1, none⟩ = some u) ∧
      (∃ A pc, W.cell? ⟨g, i * 11 + 2, none⟩ = some (.slice A x.ps.length pc) ∧ x.ps.length ≤ pc ∧ pc ≤ maxLen ∧ ∀ k, k < x.ps.length → ∃ b o, A = some ⟨b, o, none⟩ ∧ b ≠ g ∧ FreshU base W b ∧ ∃ u, W.cell? ⟨b, o + k * 2 + 1, none⟩ = some u) ∧
      (∃ A pc, W.cell? ⟨g, i * 11 + 9, none⟩ = some (.slice A x.av.items.length pc) ∧ x.av.items.length ≤ pc ∧ pc ≤ maxLen ∧ ∀ k, k < x.av.items.length → ∃ b o, A = some ⟨b, o, none⟩ ∧ b ≠ g ∧ FreshU base W b ∧ ∃ u, W.cell? ⟨b, o + k * 8 + 2, none⟩ = some u) ∧
      (∃ A pc, W.cell? ⟨g, i * 11 + 10, none⟩ = some (.slice A x.av.items.length pc) ∧ x.av.items.length ≤ pc ∧ pc ≤ maxLen ∧ ∀ k, k < x.av.items.length → ∃ b o, A = some ⟨b, o, none⟩ ∧ b ≠ g ∧ FreshU base W b ∧ ∃ u, W.cell? ⟨b, o + k, none⟩ = some u) := by
  obtain ⟨xs, hown, hfl⟩ := h
  have hi := (List.getElem?_eq_some_iff.1 hx).1
  have hfree := fun b hb => own_free (b := b) hown hb
  obtain ⟨g, cap, rfl, hg, hnc, hcm, hc⟩ := own_cells hown (by omega)
  obtain ⟨cs, hca, hxa⟩ := hfl.row hc i x hx
  rw [Nat.zero_add] at hca
  have hca : CellsAt W g (i * 11) cs := hca
  obtain ⟨_, k1, _, _, ⟨pv, k2, A1, c1, rfl, ⟨p0, p1, p2⟩, hp⟩, acs, hac, hav, _⟩ := ent_cells hca hxa
  generalize x.av = av at hav hk ⊢
  obtain ⟨kk, bo, nn, t, ut, ui, items, names⟩ := av
  unfold Val.At at hav
  obtain ⟨A2, c2, nv, rfl, _, ⟨q0, q1, q2⟩, hit, A3, c3, rfl, r0, r1, r2, _, hnm⟩ := hav
  have hk : names.length = items.length := hk
  have hm : ∀ b, MadeU base W (.slice (some ⟨g, 0, none⟩) c.length cap) b → b ≠ g ∧ FreshU base W b := fun b hb => ⟨fun e => hb.2.2 (by rw [e]; rfl), hb.fresh⟩
  refine ⟨g, cap, rfl, hfree g rfl, ⟨_, k1⟩, ⟨A1, c1, k2, p1, p2, fun k hk' => ?_⟩, ⟨A2, c2, ?_, q1, q2, fun k hk' => ?_⟩, ⟨A3, c3, ?_, ?_, r2, fun k hk' => ?_⟩⟩
  · obtain ⟨b, o, hA, hb, hrow⟩ := hp (by omega)
    obtain ⟨p, hpk⟩ : ∃ p, x.ps[k]? = some p := ⟨_, List.getElem?_eq_getElem hk'⟩
    obtain ⟨cs', hc', rfl, _⟩ := hrow k p hpk
    exact ⟨b, o, hA, (hm b hb).1, (hm b hb).2, _, hc' 1 _ rfl⟩
  · exact hac 6 _ rfl
  · obtain ⟨b, o, hA, hb, hrow⟩ := hit (by have : k < items.length := hk'; omega)
    obtain ⟨y, hy⟩ : ∃ y, items[k]? = some y := ⟨_, List.getElem?_eq_getElem hk'⟩
    obtain ⟨cs', hl', hc', _⟩ := hrow.get hy
    exact ⟨b, o, hA, (hm b hb).1, (hm b hb).2, _, hc' 2 _ (List.getElem?_eq_getElem (by omega))⟩
  · show W.cell? ⟨g, i * 11 + 10, none⟩ = some (.slice A3 items.length c3)
    rw [← hk]
    exact hac 7 _ rfl
  · show items.length ≤ c3
    omega
  · obtain ⟨b, o, hA, hb, hrow⟩ := hnm (by have : k < items.length := hk'; omega)
    exact ⟨b, o, hA, (hm b hb).1, (hm b hb).2, _, hrow k _ (List.getElem?_eq_getElem (by have : k < items.length := hk'; simp; omega))⟩
theorem canonE_lens {l : List Ent} (h : Good l) {x : Ent} (hx : x ∈ (canonE l).1) : x.av.names.length = x.av.items.length := by
  have hk := ((canonE_good h).ones x hx).1
  obtain ⟨e, he, rfl⟩ := (canonE_mem h x).1 hx
  have h0 := (h.ones e he).2.1
  change e.av.canon.1.names.length = e.av.canon.1.items.length
  change e.av.canon.1.kind = 6 at hk
  unfold Val.canon at h0 hk ⊢
  by_cases hd : 50 < e.av.dep
  · rw [if_pos hd] at h0; cases h0
  · rw [if_neg hd] at h0 hk ⊢
    have hi := Val.can_is h0
    generalize e.av.can.1 = v at hi hk ⊢
    obtain ⟨k, bo, n, t, ut, ui, items, names⟩ := v
    obtain rfl : k = 6 := hk
    unfold Val.Is at hi
    show names.length = items.length
    rcases hi with h | h | h | h | h | h
    · exact absurd h.1 (by decide)
    · exact absurd h.1 (by decide)
    · exact absurd h.1 (by decide)
    · exact absurd h.1 (by decide)
    · exact absurd h.1 (by decide)
    · exact h.2.2.2.2.2.2.1
end Go.Proofs.YtjllolagcdjlnaaGreat
