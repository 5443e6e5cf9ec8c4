/-
  A statement whose order Go leaves open: values, some of them in memory that the statement makes, a call that gives a value and an error, and the value laid into a box of its own, the error assigned. The conditions: none (lemmas).
-/
import Derived.Test.YtebfoimbdljbmaaDoorAskQ
namespace Go.Proofs.YtebfoimbdljbmaaDoor
open Go.RowKit

/-- what is so behind each of the operations: the first c have values of their own; then the call, a move, the two extracts, the box, the store, the assignment -/
structure AskW (w0 : World) (S : Nat → Prop) (lo c : Nat) (V : Nat → Value → World → Prop) (r : Rs) (L : Nat → Bool) (xs : List Value) (W : World) (z : Val) (cv : List Value) (g : Nat) : Prop where
  ext : Ext w0 W
  known : ∀ i, i < c → L i = true → V i (xs.getD i undef) W
  called : L c = true → xs.getD c undef = .tuple #[.agg cv.toArray, .int .i64 r.2] ∧ (r.2 = 0 → z = r.1) ∧ Val.At (fun b => (S b ∨ Fresh lo W b) ∧ (L (c + 4) = true → b ≠ g)) W z cv
  moved : L (c + 1) = true → xs.getD (c + 1) undef = .tuple #[.agg cv.toArray, .int .i64 r.2]
  first : L (c + 2) = true → xs.getD (c + 2) undef = .agg cv.toArray
  second : L (c + 3) = true → xs.getD (c + 3) undef = .int .i64 r.2
  assigned : L (c + 6) = true → xs.getD (c + 6) undef = .int .i64 r.2
  boxed : L (c + 4) = true → xs.getD (c + 4) undef = .pointer (some ⟨g, 0, none⟩) ∧ w0.heap.size ≤ g ∧ g < W.heap.size
  empty : L (c + 4) = true → L (c + 5) = false → W.heap[g]? = some (.cells zeroCells.toArray 28 (0, 0))
  full : L (c + 5) = true → W.heap[g]? = some (.cells cv.toArray 28 (0, 0))
def AskK (w0 : World) (S : Nat → Prop) (lo c : Nat) (V : Nat → Value → World → Prop) (r : Rs) (L : Nat → Bool) (xs : List Value) (W : World) : Prop := ∃ z cv g, AskW w0 S lo c V r L xs W z cv g
section
variable {w0 : World} {S : Nat → Prop} {lo c : Nat} {V : Nat → Value → World → Prop} {r : Rs} {L : Nat → Bool} {xs : List Value} {W : World} {z : Val} {cv : List Value} {g : Nat}
theorem AskK.congr {L' : Nat → Bool} (n : Nat) (hn : c + 7 = n) (he : ∀ i, i < n → L i = L' i) (h : AskK w0 S lo c V r L xs W) : AskK w0 S lo c V r L' xs W := by
  obtain ⟨z, cv, g, h⟩ := h
  have e : ∀ k, k < 7 → L (c + k) = L' (c + k) := fun k hk => he _ (by omega)
  have e0 : L c = L' c := he _ (by omega)
  refine ⟨z, cv, g, h.ext, fun i hi k => h.known i hi (by rwa [he i (by omega)]), fun k => ?_, fun k => h.moved (by rwa [e 1 (by omega)]), fun k => h.first (by rwa [e 2 (by omega)]), fun k => h.second (by rwa [e 3 (by omega)]), fun k => h.assigned (by rwa [e 6 (by omega)]), fun k => h.boxed (by rwa [e 4 (by omega)]), fun k1 k2 => h.empty (by rwa [e 4 (by omega)]) (by rwa [e 5 (by omega)]), fun k => h.full (by rwa [e 5 (by omega)])⟩
  have := h.called (by rwa [e0])
  rwa [e 4 (by omega)] at this
theorem AskK.start : AskK w0 S lo c V r (fun _ => false) xs w0.drew :=
  ⟨.zero, [], 0, (Ext.refl w0).drewN 1, (fun _ _ h => by cases h), (fun h => by cases h), (fun h => by cases h), (fun h => by cases h), (fun h => by cases h), (fun h => by cases h), (fun h => by cases h), (fun h => by cases h), (fun h => by cases h)⟩
/-- one more operation that leaves the world: xs gets v at i -/
theorem AskW.put (h : AskW w0 S lo c V r L xs W z cv g) {i : Nat} (hi : i < c + 7) (h4 : i ≠ c + 4) (h5 : i ≠ c + 5) (hl : xs.length = c + 7) {v : Value}
    (hk : i < c → V i v W) (hc : i ≠ c) (h1 : i = c + 1 → v = .tuple #[.agg cv.toArray, .int .i64 r.2]) (h2 : i = c + 2 → v = .agg cv.toArray) (h3 : i = c + 3 → v = .int .i64 r.2) (h6 : i = c + 6 → v = .int .i64 r.2) :
    AskW w0 S lo c V r (done L i) (xs.set i v) W z cv g := by
  have d : ∀ j, j ≠ i → done L i j = L j := fun j hj => done_ne hj
  refine ⟨h.ext, fun j hj k => ?_, fun k => ?_, fun k => ?_, fun k => ?_, fun k => ?_, fun k => ?_, fun k => ?_, fun k1 k2 => ?_, fun k => ?_⟩
  · by_cases e : j = i
    · subst e; rw [getD_at (by omega)]; exact hk hj
    · rw [getD_ne (fun h => e h.symm)]; exact h.known j hj (by rwa [d j e] at k)
  · rw [getD_ne (fun h => hc h), d (c + 4) (Ne.symm h4)]; exact h.called (by rwa [d c (Ne.symm hc)] at k)
  · by_cases e : c + 1 = i
    · subst e; rw [getD_at (by omega)]; exact h1 rfl
    · rw [getD_ne (fun h => e h.symm)]; exact h.moved (by rwa [d _ e] at k)
  · by_cases e : c + 2 = i
    · subst e; rw [getD_at (by omega)]; exact h2 rfl
    · rw [getD_ne (fun h => e h.symm)]; exact h.first (by rwa [d _ e] at k)
  · by_cases e : c + 3 = i
    · subst e; rw [getD_at (by omega)]; exact h3 rfl
    · rw [getD_ne (fun h => e h.symm)]; exact h.second (by rwa [d _ e] at k)
  · by_cases e : c + 6 = i
    · subst e; rw [getD_at (by omega)]; exact h6 rfl
    · rw [getD_ne (fun h => e h.symm)]; exact h.assigned (by rwa [d _ e] at k)
  · rw [getD_ne (fun h => h4 h)]; exact h.boxed (by rwa [d _ (Ne.symm h4)] at k)
  · exact h.empty (by rwa [d _ (Ne.symm h4)] at k1) (by rwa [d _ (Ne.symm h5)] at k2)
  · exact h.full (by rwa [d _ (Ne.symm h5)] at k)
/-- the world has grown -/
theorem AskW.grow (h : AskW w0 S lo c V r L xs W z cv g) (hS : ∀ b, S b → b < w0.heap.size) {W' : World} (hx : Ext W W') (hV : ∀ i v, i < c → V i v W → V i v W') : AskW w0 S lo c V r L xs W' z cv g := by
  refine ⟨h.ext.trans hx, fun j hj k => hV _ _ hj (h.known j hj k), fun k => ?_, h.moved, h.first, h.second, h.assigned, fun k => ?_, fun k1 k2 => ?_, fun k => ?_⟩
  · obtain ⟨e, hz, hv⟩ := h.called k
    have hlt : ∀ b, ((S b ∨ Fresh lo W b) ∧ (L (c + 4) = true → b ≠ g)) → b < W.heap.size := fun b hb => hb.1.elim (fun hb => Nat.lt_of_lt_of_le (hS b hb) h.ext.size) fun hb => hb.2
    exact ⟨e, hz, Val.At.mono (fun b hb => ⟨hb.1.imp id fun hf => ⟨hf.1, Nat.lt_of_lt_of_le hf.2 hx.size⟩, hb.2⟩) _ _ (Val.At.alike (Alike.of_ext hx hlt) _ _ hv)⟩
  · obtain ⟨e, g1, g2⟩ := h.boxed k
    exact ⟨e, g1, Nat.lt_of_lt_of_le g2 hx.size⟩
  · have hb := h.empty k1 k2
    exact (hx.block _ (Blk_lt hb)).trans hb
  · have hb := h.full k
    exact (hx.block _ (Blk_lt hb)).trans hb
/-- the call -/
theorem AskW.call (h : AskW w0 S lo c V r L xs W z cv g) (hV : ∀ i v W', i < c → V i v W → Ext W W' → V i v W') (hl : xs.length = c + 7) (hlo : lo ≤ W.heap.size) (hS : ∀ b, S b → b < w0.heap.size) (f1 : L (c + 1) = false) (f2 : L (c + 2) = false) (f3 : L (c + 3) = false) (f5 : L (c + 5) = false) (f6 : L (c + 6) = false)
    {W' : World} (hx : Ext W W') {z' : Val} {cs : List Value} (hz : r.2 = 0 → z' = r.1) (hv : Val.At (fun b => S b ∨ Fresh W.heap.size W' b) W' z' cs) : AskW w0 S lo c V r (done L c) (xs.set c (.tuple #[.agg cs.toArray, .int .i64 r.2])) W' z' cs g := by
  have d : ∀ j, j ≠ c → done L c j = L j := fun j hj => done_ne hj
  refine ⟨h.ext.trans hx, fun j hj k => ?_, fun k => ?_, fun k => ?_, fun k => ?_, fun k => ?_, fun k => ?_, fun k => ?_, fun k1 k2 => ?_, fun k => ?_⟩
  · rw [getD_ne (by omega)]; exact hV _ _ _ hj (h.known j hj (by rwa [d j (by omega)] at k)) hx
  · refine ⟨by rw [getD_at (by omega)], hz, Val.At.mono (fun b hb => ⟨hb.imp id fun hf => ⟨Nat.le_trans hlo hf.1, hf.2⟩, fun k4 => ?_⟩) _ _ hv⟩
    rw [d _ (by omega)] at k4
    obtain ⟨_, g1, g2⟩ := h.boxed k4
    rcases hb with hb | hb
    · have := hS b hb; omega
    · have := hb.1; omega
  · rw [d _ (by omega), f1] at k; cases k
  · rw [d _ (by omega), f2] at k; cases k
  · rw [d _ (by omega), f3] at k; cases k
  · rw [d _ (by omega), f6] at k; cases k
  · rw [getD_ne (by omega)]
    obtain ⟨e, g1, g2⟩ := h.boxed (by rwa [d _ (by omega)] at k)
    exact ⟨e, g1, Nat.lt_of_lt_of_le g2 hx.size⟩
  · have hb := h.empty (by rwa [d _ (by omega)] at k1) f5
    exact (hx.block _ (Blk_lt hb)).trans hb
  · rw [d _ (by omega), f5] at k; cases k
/-- the box -/
theorem AskW.box (h : AskW w0 S lo c V r L xs W z cv g) (hV : ∀ i v W', i < c → V i v W → Ext W W' → V i v W') (hl : xs.length = c + 7) (hS : ∀ b, S b → b < w0.heap.size) (f5 : L (c + 5) = false) :
    AskW w0 S lo c V r (done L (c + 4)) (xs.set (c + 4) (.pointer (some ⟨W.heap.size, 0, none⟩))) (W.alloc (.cells zeroCells.toArray 28)) z cv W.heap.size := by
  have d : ∀ j, j ≠ c + 4 → done L (c + 4) j = L j := fun j hj => done_ne hj
  have hx : Ext W (W.alloc (.cells zeroCells.toArray 28)) := (Ext.refl W).alloc _
  refine ⟨h.ext.trans hx, fun j hj k => ?_, fun k => ?_, fun k => ?_, fun k => ?_, fun k => ?_, fun k => ?_, fun k => ?_, fun k1 k2 => ?_, fun k => ?_⟩
  · rw [getD_ne (by omega)]; exact hV _ _ _ hj (h.known j hj (by rwa [d j (by omega)] at k)) hx
  · rw [getD_ne (by omega)]
    obtain ⟨e, hz, hv⟩ := h.called (by rwa [d _ (by omega)] at k)
    have hlt : ∀ b, ((S b ∨ Fresh lo W b) ∧ (L (c + 4) = true → b ≠ g)) → b < W.heap.size := fun b hb => hb.1.elim (fun hb => Nat.lt_of_lt_of_le (hS b hb) h.ext.size) fun hb => hb.2
    exact ⟨e, hz, Val.At.mono (fun b hb => ⟨hb.1.imp id fun hf => ⟨hf.1, Nat.lt_of_lt_of_le hf.2 hx.size⟩, fun _ => by have := hlt b hb; omega⟩) _ _ (Val.At.alike (Alike.of_ext hx hlt) _ _ hv)⟩
  · rw [getD_ne (by omega)]; exact h.moved (by rwa [d _ (by omega)] at k)
  · rw [getD_ne (by omega)]; exact h.first (by rwa [d _ (by omega)] at k)
  · rw [getD_ne (by omega)]; exact h.second (by rwa [d _ (by omega)] at k)
  · rw [getD_ne (by omega)]; exact h.assigned (by rwa [d _ (by omega)] at k)
  · rw [getD_at (by omega)]; exact ⟨rfl, h.ext.size, by simp⟩
  · exact heap_alloc_new _ _
  · rw [d _ (by omega), f5] at k; cases k
/-- the store -/
theorem AskW.store (h : AskW w0 S lo c V r L xs W z cv g) (hV : ∀ i v cur row, i < c → V i v W → w0.heap.size ≤ g → W.heap[g]? = some (.cells cur 28 (0, 0)) → V i v (W.setRow g row)) (hS : ∀ b, S b → b < w0.heap.size) (k0 : L c = true) (k4 : L (c + 4) = true) :
    AskW w0 S lo c V r (done L (c + 5)) (xs.set (c + 5) undef) (W.setRow g cv.toArray) z cv g := by
  have d : ∀ j, j ≠ c + 5 → done L (c + 5) j = L j := fun j hj => done_ne hj
  obtain ⟨hp, g1, g2⟩ := h.boxed k4
  obtain ⟨e, hz, hv⟩ := h.called k0
  have hgr := GrownBy.setRow W g cv.toArray
  have hsz : W.heap.size ≤ (W.setRow g cv.toArray).heap.size := hgr.size
  have hlt : ∀ b, ((S b ∨ Fresh lo W b) ∧ (L (c + 4) = true → b ≠ g)) → b < W.heap.size := fun b hb => hb.1.elim (fun hb => Nat.lt_of_lt_of_le (hS b hb) h.ext.size) fun hb => hb.2
  obtain ⟨cur, hcur⟩ : ∃ cur, W.heap[g]? = some (.cells cur 28 (0, 0)) := by
    cases h5 : L (c + 5) with
    | true => exact ⟨_, h.full h5⟩
    | false => exact ⟨_, h.empty k4 h5⟩
  refine ⟨h.ext.setRow g1 _, fun j hj k => ?_, fun k => ?_, fun k => ?_, fun k => ?_, fun k => ?_, fun k => ?_, fun k => ?_, fun k1 k2 => ?_, fun k => ?_⟩
  · rw [getD_ne (by omega)]; exact hV _ _ _ _ hj (h.known j hj (by rwa [d j (by omega)] at k)) g1 hcur
  · rw [getD_ne (by omega)]
    refine ⟨e, hz, Val.At.mono (fun b hb => ⟨hb.1.imp id fun hf => ⟨hf.1, Nat.lt_of_lt_of_le hf.2 hsz⟩, fun _ => hb.2 k4⟩) _ _ (Val.At.alike (fun b hb => hgr.block b (hlt b hb) fun e => ?_) _ _ hv)⟩
    injection e with e; exact hb.2 k4 e
  · rw [getD_ne (by omega)]; exact h.moved (by rwa [d _ (by omega)] at k)
  · rw [getD_ne (by omega)]; exact h.first (by rwa [d _ (by omega)] at k)
  · rw [getD_ne (by omega)]; exact h.second (by rwa [d _ (by omega)] at k)
  · rw [getD_ne (by omega)]; exact h.assigned (by rwa [d _ (by omega)] at k)
  · rw [getD_ne (by omega)]; exact ⟨hp, g1, Nat.lt_of_lt_of_le g2 hsz⟩
  · rw [done_self] at k2; cases k2
  · exact heap_setRow hcur _
end
/-- such a statement as a whole -/
theorem region_askV {l : List Oper} {a0 : Act} {id : Nat} {Q : Exit → Act → World → Prop} {w : World} (S : Nat → Prop) (lo c n dc dm d0 d1 db : Nat) (hn : n = c + 7) (V : Nat → Value → World → Prop) (r : Rs) (hm : Tryd.prog.follows .mixedOrders = true) (hB : monoB l n = true) (hg : plainB l n a0.tmps.size = true)
    (hS : ∀ b, S b → b < w.heap.size) (hlo : lo ≤ w.heap.size)
    (hVx : ∀ i v W W', i < c → V i v W → Ext w W → Ext W W' → V i v W') (hVs : ∀ i v W g cur row, i < c → V i v W → Ext w W → w.heap.size ≤ g → W.heap[g]? = some (.cells cur 28 (0, 0)) → V i v (W.setRow g row))
    (hops : ∃ oc om o0 o1 ob os oa, l[c]? = some oc ∧ l[c + 1]? = some om ∧ l[c + 2]? = some o0 ∧ l[c + 3]? = some o1 ∧ l[c + 4]? = some ob ∧ l[c + 5]? = some os ∧ l[c + 6]? = some oa ∧ om.op = .move (.tmp dc) ∧ o0.op = .extract (.tmp dm) 0 ∧ o1.op = .extract (.tmp dm) 1 ∧ ob.op = .alloc 28 ∧ os.op = .store 28 (.tmp db) (.tmp d0) ∧ oa.op = .assign (.tmp d1))
    (hdst : dstIs l c dc = true ∧ dstIs l (c + 1) dm = true ∧ dstIs l (c + 2) d0 = true ∧ dstIs l (c + 3) d1 = true ∧ dstIs l (c + 4) db = true)
    (hw : waits l (c + 1) c = true ∧ waits l (c + 2) (c + 1) = true ∧ waits l (c + 3) (c + 1) = true ∧ waits l (c + 5) (c + 2) = true ∧ waits l (c + 5) (c + 4) = true ∧ waits l (c + 6) (c + 3) = true)
    (hknown : ∀ i o, i < c → l[i]? = some o → ∀ (W : World) (a : Act), Ext w W → (∀ t, notDst l n t = true → a.eval (.tmp t) = a0.eval (.tmp t)) → (∀ j t, j < c → waits l i j = true → dstIs l j t = true → V j (a.eval (.tmp t)) W) → ∀ (Q : Exit → Act → World → Prop) (K : Act → World → Prop), (∀ v W', Ext W W' → V i v W' → K (a.put o.dst v) W') → o.wp Tryd.prog a W K Q)
    (hcall : ∀ o, l[c]? = some o → ∀ (W : World) (a : Act), Ext w W → (∀ t, notDst l n t = true → a.eval (.tmp t) = a0.eval (.tmp t)) → (∀ j t, j < c → waits l c j = true → dstIs l j t = true → V j (a.eval (.tmp t)) W) →
      ∃ f args, (execOp a.eval o).run Tryd.prog W = .ok (.enter f args) W ∧ Calls Tryd.prog f args W (RefAns S r W))
    (hQ : ∀ xs W z cv g, xs.length = n → Ext w W → (∀ i, i < c → V i (xs.getD i undef) W) → xs.getD (c + 4) undef = .pointer (some ⟨g, 0, none⟩) → w.heap.size ≤ g → W.heap[g]? = some (.cells cv.toArray 28 (0, 0)) → (r.2 = 0 → z = r.1) → Val.At (fun b => (S b ∨ Fresh lo W b) ∧ b ≠ g) W z cv →
      xs.getD (c + 6) undef = .int .i64 r.2 → wpList Tryd.prog l.toArray Q (l.drop n) (putAll a0 (l.take n) xs) W) : (Code.region id l.toArray true).wp Tryd.prog Q a0 w := by
  subst hn
  obtain ⟨oc, om, o0, o1, ob, os, oa, ec, em, e0, e1, eb, es, ea, pm, p0, p1, pb, ps, pa⟩ := hops
  obtain ⟨q0, q1, q2, q3, q4⟩ := hdst
  obtain ⟨w1, w2, w3, w5, w54, w6⟩ := hw
  refine region_inv (c + 7) (AskK w S lo c V r) hm hB hg (fun L L' xs W he h => h.congr _ rfl he) (fun xs _ => AskK.start) (fun i o hi ho L xs W a hxl hJ hL hwt hcl hold hat Q' K hK => ?_) ?_
  · obtain ⟨z, cv, g, hP⟩ := hJ
    have up : ∀ j k, j < c + 7 → k < c + 7 → waits l j k = true → L k = false → L j = false := fun j k hj hk hw hLk => by
      cases hLj : L j with
      | false => rfl
      | true => rw [hcl j k hj hk hLj hw] at hLk; cases hLk
    by_cases hic : i < c
    · exact hknown i o hic ho W a hP.ext hold (fun j t hj hw hd => by rw [hat j t (by omega) hd]; exact hP.known j hj (hwt j (by omega) hw)) Q' K fun v W' hx hv =>
        hK _ _ ⟨z, cv, g, (hP.grow hS hx fun i v hi h => hVx i v W W' hi h hP.ext hx).put hi (by omega) (by omega) hxl (fun _ => hv) (by omega) (by omega) (by omega) (by omega) (by omega)⟩
    rcases (by omega : i = c ∨ i = c + 1 ∨ i = c + 2 ∨ i = c + 3 ∨ i = c + 4 ∨ i = c + 5 ∨ i = c + 6) with rfl | rfl | rfl | rfl | rfl | rfl | rfl
    · have f1 := up _ _ (by omega) (by omega) w1 hL
      have f2 := up _ _ (by omega) (by omega) w2 f1
      have f3 := up _ _ (by omega) (by omega) w3 f1
      have f5 := up _ _ (by omega) (by omega) w5 f2
      have f6 := up _ _ (by omega) (by omega) w6 f3
      obtain ⟨f, args, hrun, hc⟩ := hcall o ho W a hP.ext hold (fun j t hj hw hd => by rw [hat j t (by omega) hd]; exact hP.known j hj (hwt j (by omega) hw))
      unfold Oper.wp
      rw [hrun]
      refine hc.mono ?_
      rintro e w' ⟨z', cs, rfl, hz, hv, hx⟩
      exact hK _ _ ⟨z', cs, g, hP.call (fun i v W' hi h hx => hVx i v W W' hi h hP.ext hx) hxl (Nat.le_trans hlo hP.ext.size) hS f1 f2 f3 f5 f6 hx hz hv⟩
    · obtain rfl := Option.some.inj (ho.symm.trans em)
      have hc := hwt c (by omega) w1
      unfold Oper.wp
      rw [exec_move pm ((hat c dc (by omega) q0).trans (hP.called hc).1)]
      exact hK _ _ ⟨z, cv, g, hP.put hi (by omega) (by omega) hxl (fun h => by omega) (by omega) (fun _ => rfl) (by omega) (by omega) (by omega)⟩
    · obtain rfl := Option.some.inj (ho.symm.trans e0)
      have hc := hwt (c + 1) (by omega) w2
      unfold Oper.wp
      rw [exec_extract p0 ((hat (c + 1) dm (by omega) q1).trans (hP.moved hc)) rfl]
      exact hK _ _ ⟨z, cv, g, hP.put hi (by omega) (by omega) hxl (fun h => by omega) (by omega) (by omega) (fun _ => rfl) (by omega) (by omega)⟩
    · obtain rfl := Option.some.inj (ho.symm.trans e1)
      have hc := hwt (c + 1) (by omega) w3
      unfold Oper.wp
      rw [exec_extract p1 ((hat (c + 1) dm (by omega) q1).trans (hP.moved hc)) rfl]
      exact hK _ _ ⟨z, cv, g, hP.put hi (by omega) (by omega) hxl (fun h => by omega) (by omega) (by omega) (by omega) (fun _ => rfl) (by omega)⟩
    · obtain rfl := Option.some.inj (ho.symm.trans eb)
      have f5 := up _ _ (by omega) (by omega) w54 hL
      unfold Oper.wp
      rw [exec_alloc pb (Tryd.alloc27 W)]
      exact hK _ _ ⟨z, cv, W.heap.size, hP.box (fun i v W' hi h hx => hVx i v W W' hi h hP.ext hx) hxl hS f5⟩
    · obtain rfl := Option.some.inj (ho.symm.trans es)
      have k2 := hwt (c + 2) (by omega) w5
      have k4 := hwt (c + 4) (by omega) w54
      have k1 := hcl (c + 2) (c + 1) (by omega) (by omega) k2 w2
      have k0 := hcl (c + 1) c (by omega) (by omega) k1 w1
      obtain ⟨hp, g1, g2⟩ := hP.boxed k4
      have hv := (hP.called k0).2.2
      have hl8 : cv.length = 8 := hv.length
      unfold Oper.wp
      rw [exec_store_whole ps ((hat (c + 4) db (by omega) q4).trans hp) ((hat (c + 2) d0 (by omega) q2).trans (hP.first k2)) Tryd.size27 hl8 (hP.empty k4 hL) (by simp [zeroCells, hl8]) hv.one]
      exact hK undef _ ⟨z, cv, g, hP.store (fun i v cur row hi h hg hc => hVs i v W g cur row hi h hP.ext hg hc) hS k0 k4⟩
    · obtain rfl := Option.some.inj (ho.symm.trans ea)
      have hc := hwt (c + 3) (by omega) w6
      unfold Oper.wp
      rw [exec_assign pa ((hat (c + 3) d1 (by omega) q3).trans (hP.second hc))]
      exact hK _ _ ⟨z, cv, g, hP.put hi (by omega) (by omega) hxl (fun h => by omega) (by omega) (by omega) (by omega) (by omega) (fun _ => rfl)⟩
  · intro L xs W hxl hL hJ
    obtain ⟨z, cv, g, hP⟩ := hJ
    have t : ∀ k, k < 7 → L (c + k) = true := fun k hk => hL _ (by omega)
    obtain ⟨hp, g1, _⟩ := hP.boxed (t 4 (by omega))
    obtain ⟨_, hz, hv⟩ := hP.called (hL c (by omega))
    exact hQ xs W z cv g hxl hP.ext (fun i hi => hP.known i hi (hL i (by omega))) hp g1 (hP.full (t 5 (by omega))) hz (Val.At.mono (fun b hb => ⟨hb.1, hb.2 (t 4 (by omega))⟩) _ _ hv) (hP.assigned (t 6 (by omega)))
end Go.Proofs.YtebfoimbdljbmaaDoor
