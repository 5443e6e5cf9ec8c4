/-
  A statement whose order Go leaves open: values, a call that gives a value and an error, and the value laid into a box of its own, the error assigned. The conditions: none (lemmas).
-/
import Derived.Test.YtebfoimbdljbmaaDoorRkQ
import Derived.Test.YtebfoimbdljbmaaDoorCallJQ
namespace Go.Proofs.YtebfoimbdljbmaaDoor
open Go.RowKit

/-- what is so behind each of the operations: the first c have values of their own; then the call, a move, the two extracts, the box, the store, the assignment -/
structure AskP (w0 : World) (S : Nat → Prop) (lo c : Nat) (vs : List Value) (r : Rs) (L : Nat → Bool) (xs : List Value) (W : World) (z : Val) (cv : List Value) (g : Nat) : Prop where
  ext : Ext w0 W
  known : ∀ i, i < c → L i = true → xs.getD i undef = vs.getD i undef
  called : L c = true → xs.getD c undef = .tuple #[.agg cv.toArray, .int .i64 r.2] ∧ (r.2 = 0 → z = r.1) ∧ Val.At (fun b => (S b ∨ Fresh lo W b) ∧ (L (c + 4) = true → b ≠ g)) W z cv
  moved : L (c + 1) = true → xs.getD (c + 1) undef = .tuple #[.agg cv.toArray, .int .i64 r.2]
  first : L (c + 2) = true → xs.getD (c + 2) undef = .agg cv.toArray
  second : L (c + 3) = true → xs.getD (c + 3) undef = .int .i64 r.2
  assigned : L (c + 6) = true → xs.getD (c + 6) undef = .int .i64 r.2
  boxed : L (c + 4) = true → xs.getD (c + 4) undef = .pointer (some ⟨g, 0, none⟩) ∧ w0.heap.size ≤ g ∧ g < W.heap.size
  empty : L (c + 4) = true → L (c + 5) = false → W.heap[g]? = some (.cells zeroCells.toArray 28 (0, 0))
  full : L (c + 5) = true → W.heap[g]? = some (.cells cv.toArray 28 (0, 0))
def AskJ (w0 : World) (S : Nat → Prop) (lo c : Nat) (vs : List Value) (r : Rs) (L : Nat → Bool) (xs : List Value) (W : World) : Prop := ∃ z cv g, AskP w0 S lo c vs r L xs W z cv g
section
variable {w0 : World} {S : Nat → Prop} {lo c : Nat} {vs : List Value} {r : Rs} {L : Nat → Bool} {xs : List Value} {W : World} {z : Val} {cv : List Value} {g : Nat}
theorem AskJ.congr {L' : Nat → Bool} (n : Nat) (hn : c + 7 = n) (he : ∀ i, i < n → L i = L' i) (h : AskJ w0 S lo c vs r L xs W) : AskJ w0 S lo c vs r L' xs W := by
  obtain ⟨z, cv, g, h⟩ := h
  have e : ∀ k, k < 7 → L (c + k) = L' (c + k) := fun k hk => he _ (by omega)
  have e0 : L c = L' c := he _ (by omega)
  refine ⟨z, cv, g, h.ext, fun i hi k => h.known i hi (by rwa [he i (by omega)]), fun k => ?_, fun k => h.moved (by rwa [e 1 (by omega)]), fun k => h.first (by rwa [e 2 (by omega)]), fun k => h.second (by rwa [e 3 (by omega)]), fun k => h.assigned (by rwa [e 6 (by omega)]), fun k => h.boxed (by rwa [e 4 (by omega)]), fun k1 k2 => h.empty (by rwa [e 4 (by omega)]) (by rwa [e 5 (by omega)]), fun k => h.full (by rwa [e 5 (by omega)])⟩
  have := h.called (by rwa [e0])
  rwa [e 4 (by omega)] at this
/-- one more operation that leaves the world: xs gets v at i -/
theorem AskP.put (h : AskP w0 S lo c vs r L xs W z cv g) {i : Nat} (hi : i < c + 7) (h4 : i ≠ c + 4) (h5 : i ≠ c + 5) (hl : xs.length = c + 7) {v : Value}
    (hk : i < c → v = vs.getD i undef) (hc : i ≠ c) (h1 : i = c + 1 → v = .tuple #[.agg cv.toArray, .int .i64 r.2]) (h2 : i = c + 2 → v = .agg cv.toArray) (h3 : i = c + 3 → v = .int .i64 r.2) (h6 : i = c + 6 → v = .int .i64 r.2) :
    AskP w0 S lo c vs r (done L i) (xs.set i v) W z cv g := by
  have d : ∀ j, j ≠ i → done L i j = L j := fun j hj => done_ne hj
  refine ⟨h.ext, fun j hj k => ?_, fun k => ?_, fun k => ?_, fun k => ?_, fun k => ?_, fun k => ?_, fun k => ?_, fun k1 k2 => ?_, fun k => ?_⟩
  · by_cases e : j = i
    · subst e; rw [getD_at (by omega)]; exact hk hj
    · rw [getD_ne (fun h => e h.symm)]; exact h.known j hj (by rwa [d j e] at k)
  · rw [getD_ne (fun h => hc h), d (c + 4) (Ne.symm h4)]; exact h.called (by rwa [d c (Ne.symm hc)] at k)
  · by_cases e : c + 1 = i
    · subst e; rw [getD_at (by omega)]; exact h1 rfl
    · rw [getD_ne (fun h => e h.symm)]; exact h.moved (by rwa [d _ e] at k)
  · by_cases e : c + 2 = i
    · subst e; rw [getD_at (by omega)]; exact h2 rfl
    · rw [getD_ne (fun h => e h.symm)]; exact h.first (by rwa [d _ e] at k)
  · by_cases e : c + 3 = i
    · subst e; rw [getD_at (by omega)]; exact h3 rfl
    · rw [getD_ne (fun h => e h.symm)]; exact h.second (by rwa [d _ e] at k)
  · by_cases e : c + 6 = i
    · subst e; rw [getD_at (by omega)]; exact h6 rfl
    · rw [getD_ne (fun h => e h.symm)]; exact h.assigned (by rwa [d _ e] at k)
  · rw [getD_ne (fun h => h4 h)]; exact h.boxed (by rwa [d _ (Ne.symm h4)] at k)
  · exact h.empty (by rwa [d _ (Ne.symm h4)] at k1) (by rwa [d _ (Ne.symm h5)] at k2)
  · exact h.full (by rwa [d _ (Ne.symm h5)] at k)
/-- the call -/
theorem AskP.call (h : AskP w0 S lo c vs r L xs W z cv g) (hl : xs.length = c + 7) (hlo : lo ≤ W.heap.size) (hS : ∀ b, S b → b < w0.heap.size) (f1 : L (c + 1) = false) (f2 : L (c + 2) = false) (f3 : L (c + 3) = false) (f5 : L (c + 5) = false) (f6 : L (c + 6) = false)
    {W' : World} (hx : Ext W W') {z' : Val} {cs : List Value} (hz : r.2 = 0 → z' = r.1) (hv : Val.At (fun b => S b ∨ Fresh W.heap.size W' b) W' z' cs) : AskP w0 S lo c vs r (done L c) (xs.set c (.tuple #[.agg cs.toArray, .int .i64 r.2])) W' z' cs g := by
  have d : ∀ j, j ≠ c → done L c j = L j := fun j hj => done_ne hj
  refine ⟨h.ext.trans hx, fun j hj k => ?_, fun k => ?_, fun k => ?_, fun k => ?_, fun k => ?_, fun k => ?_, fun k => ?_, fun k1 k2 => ?_, fun k => ?_⟩
  · rw [getD_ne (by omega)]; exact h.known j hj (by rwa [d j (by omega)] at k)
  · refine ⟨by rw [getD_at (by omega)], hz, Val.At.mono (fun b hb => ⟨hb.imp id fun hf => ⟨Nat.le_trans hlo hf.1, hf.2⟩, fun k4 => ?_⟩) _ _ hv⟩
    rw [d _ (by omega)] at k4
    obtain ⟨_, g1, g2⟩ := h.boxed k4
    rcases hb with hb | hb
    · have := hS b hb; omega
    · have := hb.1; omega
  · rw [d _ (by omega), f1] at k; cases k
  · rw [d _ (by omega), f2] at k; cases k
  · rw [d _ (by omega), f3] at k; cases k
  · rw [d _ (by omega), f6] at k; cases k
  · rw [getD_ne (by omega)]
    obtain ⟨e, g1, g2⟩ := h.boxed (by rwa [d _ (by omega)] at k)
    exact ⟨e, g1, Nat.lt_of_lt_of_le g2 hx.size⟩
  · have hb := h.empty (by rwa [d _ (by omega)] at k1) f5
    exact (hx.block _ (Blk_lt hb)).trans hb
  · rw [d _ (by omega), f5] at k; cases k
/-- the box -/
theorem AskP.box (h : AskP w0 S lo c vs r L xs W z cv g) (hl : xs.length = c + 7) (hS : ∀ b, S b → b < w0.heap.size) (f5 : L (c + 5) = false) :
    AskP w0 S lo c vs r (done L (c + 4)) (xs.set (c + 4) (.pointer (some ⟨W.heap.size, 0, none⟩))) (W.alloc (.cells zeroCells.toArray 28)) z cv W.heap.size := by
  have d : ∀ j, j ≠ c + 4 → done L (c + 4) j = L j := fun j hj => done_ne hj
  have hx : Ext W (W.alloc (.cells zeroCells.toArray 28)) := (Ext.refl W).alloc _
  refine ⟨h.ext.trans hx, fun j hj k => ?_, fun k => ?_, fun k => ?_, fun k => ?_, fun k => ?_, fun k => ?_, fun k => ?_, fun k1 k2 => ?_, fun k => ?_⟩
  · rw [getD_ne (by omega)]; exact h.known j hj (by rwa [d j (by omega)] at k)
  · rw [getD_ne (by omega)]
    obtain ⟨e, hz, hv⟩ := h.called (by rwa [d _ (by omega)] at k)
    have hlt : ∀ b, ((S b ∨ Fresh lo W b) ∧ (L (c + 4) = true → b ≠ g)) → b < W.heap.size := fun b hb => hb.1.elim (fun hb => Nat.lt_of_lt_of_le (hS b hb) h.ext.size) fun hb => hb.2
    exact ⟨e, hz, Val.At.mono (fun b hb => ⟨hb.1.imp id fun hf => ⟨hf.1, Nat.lt_of_lt_of_le hf.2 hx.size⟩, fun _ => by have := hlt b hb; omega⟩) _ _ (Val.At.alike (Alike.of_ext hx hlt) _ _ hv)⟩
  · rw [getD_ne (by omega)]; exact h.moved (by rwa [d _ (by omega)] at k)
  · rw [getD_ne (by omega)]; exact h.first (by rwa [d _ (by omega)] at k)
  · rw [getD_ne (by omega)]; exact h.second (by rwa [d _ (by omega)] at k)
  · rw [getD_ne (by omega)]; exact h.assigned (by rwa [d _ (by omega)] at k)
  · rw [getD_at (by omega)]; exact ⟨rfl, h.ext.size, by simp⟩
  · exact heap_alloc_new _ _
  · rw [d _ (by omega), f5] at k; cases k
/-- the store -/
theorem AskP.store (h : AskP w0 S lo c vs r L xs W z cv g) (hS : ∀ b, S b → b < w0.heap.size) (k0 : L c = true) (k4 : L (c + 4) = true) :
    AskP w0 S lo c vs r (done L (c + 5)) (xs.set (c + 5) undef) (W.setRow g cv.toArray) z cv g := by
  have d : ∀ j, j ≠ c + 5 → done L (c + 5) j = L j := fun j hj => done_ne hj
  obtain ⟨hp, g1, g2⟩ := h.boxed k4
  obtain ⟨e, hz, hv⟩ := h.called k0
  have hgr := GrownBy.setRow W g cv.toArray
  have hsz : W.heap.size ≤ (W.setRow g cv.toArray).heap.size := hgr.size
  have hlt : ∀ b, ((S b ∨ Fresh lo W b) ∧ (L (c + 4) = true → b ≠ g)) → b < W.heap.size := fun b hb => hb.1.elim (fun hb => Nat.lt_of_lt_of_le (hS b hb) h.ext.size) fun hb => hb.2
  refine ⟨h.ext.setRow g1 _, fun j hj k => ?_, fun k => ?_, fun k => ?_, fun k => ?_, fun k => ?_, fun k => ?_, fun k => ?_, fun k1 k2 => ?_, fun k => ?_⟩
  · rw [getD_ne (by omega)]; exact h.known j hj (by rwa [d j (by omega)] at k)
  · rw [getD_ne (by omega)]
    refine ⟨e, hz, Val.At.mono (fun b hb => ⟨hb.1.imp id fun hf => ⟨hf.1, Nat.lt_of_lt_of_le hf.2 hsz⟩, fun _ => hb.2 k4⟩) _ _ (Val.At.alike (fun b hb => hgr.block b (hlt b hb) fun e => ?_) _ _ hv)⟩
    injection e with e; exact hb.2 k4 e
  · rw [getD_ne (by omega)]; exact h.moved (by rwa [d _ (by omega)] at k)
  · rw [getD_ne (by omega)]; exact h.first (by rwa [d _ (by omega)] at k)
  · rw [getD_ne (by omega)]; exact h.second (by rwa [d _ (by omega)] at k)
  · rw [getD_ne (by omega)]; exact h.assigned (by rwa [d _ (by omega)] at k)
  · rw [getD_ne (by omega)]; exact ⟨hp, g1, Nat.lt_of_lt_of_le g2 hsz⟩
  · rw [done_self] at k2; cases k2
  · obtain ⟨cur, hcur⟩ : ∃ cur, W.heap[g]? = some (.cells cur 28 (0, 0)) := by
      cases h5 : L (c + 5) with
      | true => exact ⟨_, h.full h5⟩
      | false => exact ⟨_, h.empty k4 h5⟩
    exact heap_setRow hcur _
end
end Go.Proofs.YtebfoimbdljbmaaDoor
