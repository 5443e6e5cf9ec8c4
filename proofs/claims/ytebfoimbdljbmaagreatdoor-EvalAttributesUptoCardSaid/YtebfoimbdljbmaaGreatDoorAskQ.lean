/-
  A statement whose order Go leaves open: values, a call that gives a value and an error, and the value laid into a box of its own, the error assigned. The conditions: none (lemmas).
-/
import Derived.Test.YtebfoimbdljbmaaGreatDoorRkQ
import Derived.Test.YtebfoimbdljbmaaGreatDoorCallJQ
namespace Go.Proofs.YtebfoimbdljbmaaGreatDoor
open Go.RowKit
structure AskP (w0 : World) (S : Nat → Prop) (lo c : Nat) (vs : List Value) (r : Rs) (L : Nat → Bool) (xs : List Value) (W : World) (z : Val) (cv : List Value) (g : Nat) : Prop where
 ext : Ext w0 W
 known : ∀ i, i < c → L i = true → xs.getD i undef = vs.getD i undef
 called : L c = true → xs.getD c undef = .tuple #[.agg cv.toArray, .int .i64 r.2] ∧ (r.2 = 0 → z = r.1) ∧ Val.At (fun b => (S b ∨ Fresh lo W b) ∧ (L (c + 4) = true → b ≠ g)) W z cv
 moved : L (c + 1) = true → xs.getD (c + 1) undef = .tuple #[.agg cv.toArray, .int .i64 r.2]
 first : L (c + 2) = true → xs.getD (c + 2) undef = .agg cv.toArray
 second : L (c + 3) = true → xs.getD (c + 3) undef = .int .i64 r.2
 assigned : L (c + 6) = true → xs.getD (c + 6) undef = .int .i64 r.2
 boxed : L (c + 4) = true → xs.getD (c + 4) undef = .pointer (some ⟨g, 0, none⟩) ∧ w0.heap.size ≤ g ∧ g < W.heap.size
 empty : L (c + 4) = true → L (c + 5) = false → W.heap[g]? = some (.cells zeroCells.toArray 27 (0, 0))
 full : L (c + 5) = true → W.heap[g]? = some (.cells cv.toArray 27 (0, 0))
def AskJ (w0 : World) (S : Nat → Prop) (lo c : Nat) (vs : List Value) (r : Rs) (L : Nat → Bool) (xs : List Value) (W : World) : Prop := ∃ z cv g, AskP w0 S lo c vs r L xs W z cv g
section
variable {w0 : World} {S : Nat → Prop} {lo c : Nat} {vs : List Value} {r : Rs} {L : Nat → Bool} {xs : List Value} {W : World} {z : Val} {cv : List Value} {g : Nat}
theorem AskJ.congr {L' : Nat → Bool} (n : Nat) (hn : c + 7 = n) (he : ∀ i, i < n → L i = L' i) (h : AskJ w0 S lo c vs r L xs W) : AskJ w0 S lo c vs r L' xs W := by
 obtain ⟨z, cv, g, h⟩ := h
 have e : ∀ k, k < 7 → L (c + k) = L' (c + k) := fun k hk => he _ (by omega)
 have e0 : L c = L' c := he _ (by omega)
 refine ⟨z, cv, g, h.ext, fun i hi k => h.known i hi (by rwa [he i (by omega)]), fun k => ?_, fun k => h.moved (by rwa [e 1 (by omega)]), fun k => h.first (by rwa [e 2 (by omega)]), fun k => h.second (by rwa [e 3 (by omega)]), fun k => h.assigned (by rwa [e 6 (by omega)]), fun k => h.boxed (by rwa [e 4 (by omega)]), fun k1 k2 => h.empty (by rwa [e 4 (by omega)]) (by rwa [e 5 (by omega)]), fun k => h.full (by rwa [e 5 (by omega)])⟩
 have := h.called (by rwa [e0])
 rwa [e 4 (by omega)] at this
theorem AskJ.start : AskJ w0 S lo c vs r (fun _ => false) xs w0.drew :=
 ⟨.zero, [], 0, (Ext.refl w0).drewN 1, (fun _ _ h => by cases h), (fun h => by cases h), (fun h => by cases h), (fun h => by cases h), (fun h => by cases h), (fun h => by cases h), (fun h => by cases h), (fun h => by cases h), (fun h => by cases h)⟩
theorem AskP.put (h : AskP w0 S lo c vs r L xs W z cv g) {i : Nat} (hi : i < c + 7) (h4 : i ≠ c + 4) (h5 : i ≠ c + 5) (hl : xs.length = c + 7) {v : Value}
  (hk : i < c → v = vs.getD i undef) (hc : i ≠ c) (h1 : i = c + 1 → v = .tuple #[.agg cv.toArray, .int .i64 r.2]) (h2 : i = c + 2 → v = .agg cv.toArray) (h3 : i = c + 3 → v = .int .i64 r.2) (h6 : i = c + 6 → v = .int .i64 r.2) :
  AskP w0 S lo c vs r (done L i) (xs.set i v) W z cv g := by
 have d : ∀ j, j ≠ i → done L i j = L j := fun j hj => zag hj
 refine ⟨h.ext, fun j hj k => ?_, fun k => ?_, fun k => ?_, fun k => ?_, fun k => ?_, fun k => ?_, fun k => ?_, fun k1 k2 => ?_, fun k => ?_⟩
 ·by_cases e : j = i
  ·subst e; rw [zbu (by omega)]; exact hk hj
  ·rw [zal (fun h => e h.symm)]; exact h.known j hj (by rwa [d j e] at k)
 ·rw [zal (fun h => hc h), d (c + 4) (Ne.symm h4)]; exact h.called (by rwa [d c (Ne.symm hc)] at k)
 ·by_cases e : c + 1 = i
  ·subst e; rw [zbu (by omega)]; exact h1 rfl
  ·rw [zal (fun h => e h.symm)]; exact h.moved (by rwa [d _ e] at k)
 ·by_cases e : c + 2 = i
  ·subst e; rw [zbu (by omega)]; exact h2 rfl
  ·rw [zal (fun h => e h.symm)]; exact h.first (by rwa [d _ e] at k)
 ·by_cases e : c + 3 = i
  ·subst e; rw [zbu (by omega)]; exact h3 rfl
  ·rw [zal (fun h => e h.symm)]; exact h.second (by rwa [d _ e] at k)
 ·by_cases e : c + 6 = i
  ·subst e; rw [zbu (by omega)]; exact h6 rfl
  ·rw [zal (fun h => e h.symm)]; exact h.assigned (by rwa [d _ e] at k)
 ·rw [zal (fun h => h4 h)]; exact h.boxed (by rwa [d _ (Ne.symm h4)] at k)
 ·exact h.empty (by rwa [d _ (Ne.symm h4)] at k1) (by rwa [d _ (Ne.symm h5)] at k2)
 ·exact h.full (by rwa [d _ (Ne.symm h5)] at k)
theorem AskP.call (h : AskP w0 S lo c vs r L xs W z cv g) (hl : xs.length = c + 7) (hlo : lo ≤ W.heap.size) (hS : ∀ b, S b → b < w0.heap.size) (f1 : L (c + 1) = false) (f2 : L (c + 2) = false) (f3 : L (c + 3) = false) (f5 : L (c + 5) = false) (f6 : L (c + 6) = false)
  {W' : World} (hx : Ext W W') {z' : Val} {cs : List Value} (hz : r.2 = 0 → z' = r.1) (hv : Val.At (fun b => S b ∨ Fresh W.heap.size W' b) W' z' cs) : AskP w0 S lo c vs r (done L c) (xs.set c (.tuple #[.agg cs.toArray, .int .i64 r.2])) W' z' cs g := by
 have d : ∀ j, j ≠ c → done L c j = L j := fun j hj => zag hj
 refine ⟨h.ext.trans hx, fun j hj k => ?_, fun k => ?_, fun k => ?_, fun k => ?_, fun k => ?_, fun k => ?_, fun k => ?_, fun k1 k2 => ?_, fun k => ?_⟩
 ·rw [zal (by omega)]; exact h.known j hj (by rwa [d j (by omega)] at k)
 ·refine ⟨by rw [zbu (by omega)], hz, Val.At.mono (fun b hb => ⟨hb.imp id fun hf => ⟨Nat.le_trans hlo hf.1, hf.2⟩, fun k4 => ?_⟩) _ _ hv⟩
  rw [d _ (by omega)] at k4
  obtain ⟨_, g1, g2⟩ := h.boxed k4
  rcases hb with hb | hb
  ·have := hS b hb; omega
  ·have := hb.1; omega
 ·rw [d _ (by omega), f1] at k; cases k
 ·rw [d _ (by omega), f2] at k; cases k
 ·rw [d _ (by omega), f3] at k; cases k
 ·rw [d _ (by omega), f6] at k; cases k
 ·rw [zal (by omega)]
  obtain ⟨e, g1, g2⟩ := h.boxed (by rwa [d _ (by omega)] at k)
  exact ⟨e, g1, Nat.lt_of_lt_of_le g2 hx.size⟩
 ·have hb := h.empty (by rwa [d _ (by omega)] at k1) f5
  exact (hx.block _ (zaf hb)).trans hb
 ·rw [d _ (by omega), f5] at k; cases k
theorem AskP.box (h : AskP w0 S lo c vs r L xs W z cv g) (hl : xs.length = c + 7) (hS : ∀ b, S b → b < w0.heap.size) (f5 : L (c + 5) = false) :
  AskP w0 S lo c vs r (done L (c + 4)) (xs.set (c + 4) (.pointer (some ⟨W.heap.size, 0, none⟩))) (W.alloc (.cells zeroCells.toArray 27)) z cv W.heap.size := by
 have d : ∀ j, j ≠ c + 4 → done L (c + 4) j = L j := fun j hj => zag hj
 have hx : Ext W (W.alloc (.cells zeroCells.toArray 27)) := (Ext.refl W).alloc _
 refine ⟨h.ext.trans hx, fun j hj k => ?_, fun k => ?_, fun k => ?_, fun k => ?_, fun k => ?_, fun k => ?_, fun k => ?_, fun k1 k2 => ?_, fun k => ?_⟩
 ·rw [zal (by omega)]; exact h.known j hj (by rwa [d j (by omega)] at k)
 ·rw [zal (by omega)]
  obtain ⟨e, hz, hv⟩ := h.called (by rwa [d _ (by omega)] at k)
  have hlt : ∀ b, ((S b ∨ Fresh lo W b) ∧ (L (c + 4) = true → b ≠ g)) → b < W.heap.size := fun b hb => hb.1.elim (fun hb => Nat.lt_of_lt_of_le (hS b hb) h.ext.size) fun hb => hb.2
  exact ⟨e, hz, Val.At.mono (fun b hb => ⟨hb.1.imp id fun hf => ⟨hf.1, Nat.lt_of_lt_of_le hf.2 hx.size⟩, fun _ => by have := hlt b hb; omega⟩) _ _ (Val.At.alike (Alike.of_ext hx hlt) _ _ hv)⟩
 ·rw [zal (by omega)]; exact h.moved (by rwa [d _ (by omega)] at k)
 ·rw [zal (by omega)]; exact h.first (by rwa [d _ (by omega)] at k)
 ·rw [zal (by omega)]; exact h.second (by rwa [d _ (by omega)] at k)
 ·rw [zal (by omega)]; exact h.assigned (by rwa [d _ (by omega)] at k)
 ·rw [zbu (by omega)]; exact ⟨rfl, h.ext.size, by simp⟩
 ·exact heap_alloc_new _ _
 ·rw [d _ (by omega), f5] at k; cases k
theorem AskP.store (h : AskP w0 S lo c vs r L xs W z cv g) (hS : ∀ b, S b → b < w0.heap.size) (k0 : L c = true) (k4 : L (c + 4) = true) :
  AskP w0 S lo c vs r (done L (c + 5)) (xs.set (c + 5) undef) (W.setRow g cv.toArray) z cv g := by
 have d : ∀ j, j ≠ c + 5 → done L (c + 5) j = L j := fun j hj => zag hj
 obtain ⟨hp, g1, g2⟩ := h.boxed k4
 obtain ⟨e, hz, hv⟩ := h.called k0
 have hgr := GrownBy.setRow W g cv.toArray
 have hsz : W.heap.size ≤ (W.setRow g cv.toArray).heap.size := hgr.size
 have hlt : ∀ b, ((S b ∨ Fresh lo W b) ∧ (L (c + 4) = true → b ≠ g)) → b < W.heap.size := fun b hb => hb.1.elim (fun hb => Nat.lt_of_lt_of_le (hS b hb) h.ext.size) fun hb => hb.2
 refine ⟨h.ext.setRow g1 _, fun j hj k => ?_, fun k => ?_, fun k => ?_, fun k => ?_, fun k => ?_, fun k => ?_, fun k => ?_, fun k1 k2 => ?_, fun k => ?_⟩
 ·rw [zal (by omega)]; exact h.known j hj (by rwa [d j (by omega)] at k)
 ·rw [zal (by omega)]
  refine ⟨e, hz, Val.At.mono (fun b hb => ⟨hb.1.imp id fun hf => ⟨hf.1, Nat.lt_of_lt_of_le hf.2 hsz⟩, fun _ => hb.2 k4⟩) _ _ (Val.At.alike (fun b hb => hgr.block b (hlt b hb) fun e => ?_) _ _ hv)⟩
  injection e with e; exact hb.2 k4 e
 ·rw [zal (by omega)]; exact h.moved (by rwa [d _ (by omega)] at k)
 ·rw [zal (by omega)]; exact h.first (by rwa [d _ (by omega)] at k)
 ·rw [zal (by omega)]; exact h.second (by rwa [d _ (by omega)] at k)
 ·rw [zal (by omega)]; exact h.assigned (by rwa [d _ (by omega)] at k)
 ·rw [zal (by omega)]; exact ⟨hp, g1, Nat.lt_of_lt_of_le g2 hsz⟩
 ·rw [ze5] at k2; cases k2
 ·obtain ⟨cur, hcur⟩ : ∃ cur, W.heap[g]? = some (.cells cur 27 (0, 0)) := by
   cases h5 : L (c + 5) with
   | true => exact ⟨_, h.full h5⟩
   | false => exact ⟨_, h.empty k4 h5⟩
  exact zbi hcur _
end
theorem region_ask {l : List Oper} {a0 : Act} {id : Nat} {Q : Exit → Act → World → Prop} {w : World} (S : Nat → Prop) (lo c n dc dm d0 d1 db : Nat) (hn : n = c + 7) (vs : List Value) (r : Rs) (hm : Tryz.prog.follows .mixedOrders = true) (hB : monoB l n = true) (hg : plainB l n a0.tmps.size = true)
  (hS : ∀ b, S b → b < w.heap.size) (hlo : lo ≤ w.heap.size)
  (hops : ∃ oc om o0 o1 ob os oa, l[c]? = some oc ∧ l[c + 1]? = some om ∧ l[c + 2]? = some o0 ∧ l[c + 3]? = some o1 ∧ l[c + 4]? = some ob ∧ l[c + 5]? = some os ∧ l[c + 6]? = some oa ∧ om.op = .move (.tmp dc) ∧ o0.op = .extract (.tmp dm) 0 ∧ o1.op = .extract (.tmp dm) 1 ∧ ob.op = .alloc 27 ∧ os.op = .store 27 (.tmp db) (.tmp d0) ∧ oa.op = .assign (.tmp d1))
  (hdst : zd4 l c dc = true ∧ zd4 l (c + 1) dm = true ∧ zd4 l (c + 2) d0 = true ∧ zd4 l (c + 3) d1 = true ∧ zd4 l (c + 4) db = true)
  (hw : zbm l (c + 1) c = true ∧ zbm l (c + 2) (c + 1) = true ∧ zbm l (c + 3) (c + 1) = true ∧ zbm l (c + 5) (c + 2) = true ∧ zbm l (c + 5) (c + 4) = true ∧ zbm l (c + 6) (c + 3) = true)
  (hknown : ∀ i o, i < c → l[i]? = some o → ∀ (W : World) (a : Act), Ext w W → (∀ t, notDst l n t = true → a.eval (.tmp t) = a0.eval (.tmp t)) → (∀ j t, j < c → zbm l i j = true → zd4 l j t = true → a.eval (.tmp t) = vs.getD j undef) → (execOp a.eval o).run Tryz.prog W = .ok (.value (vs.getD i undef)) W)
  (hcall : ∀ o, l[c]? = some o → ∀ (W : World) (a : Act), Ext w W → (∀ t, notDst l n t = true → a.eval (.tmp t) = a0.eval (.tmp t)) → (∀ j t, j < c → zbm l c j = true → zd4 l j t = true → a.eval (.tmp t) = vs.getD j undef) →
   ∃ f args, (execOp a.eval o).run Tryz.prog W = .ok (.enter f args) W ∧ Calls Tryz.prog f args W (RefAns S r W))
  (hQ : ∀ xs W z cv g, xs.length = n → Ext w W → (∀ i, i < c → xs.getD i undef = vs.getD i undef) → xs.getD (c + 4) undef = .pointer (some ⟨g, 0, none⟩) → w.heap.size ≤ g → W.heap[g]? = some (.cells cv.toArray 27 (0, 0)) → (r.2 = 0 → z = r.1) → Val.At (fun b => (S b ∨ Fresh lo W b) ∧ b ≠ g) W z cv →
   xs.getD (c + 6) undef = .int .i64 r.2 → wpList Tryz.prog l.toArray Q (l.drop n) (za0 a0 (l.take n) xs) W) : (Code.region id l.toArray true).wp Tryz.prog Q a0 w := by
 subst hn
 obtain ⟨oc, om, o0, o1, ob, os, oa, ec, em, e0, e1, eb, es, ea, pm, p0, p1, pb, ps, pa⟩ := hops
 obtain ⟨q0, q1, q2, q3, q4⟩ := hdst
 obtain ⟨w1, w2, w3, w5, w54, w6⟩ := hw
 refine zdw (c + 7) (AskJ w S lo c vs r) hm hB hg (fun L L' xs W he h => h.congr _ rfl he) (fun xs _ => AskJ.start) (fun i o hi ho L xs W a hxl hJ hL hwt hcl hold hat Q' K hK => ?_) ?_
 ·obtain ⟨z, cv, g, hP⟩ := hJ
  have up : ∀ j k, j < c + 7 → k < c + 7 → zbm l j k = true → L k = false → L j = false := fun j k hj hk hw hLk => by
   cases hLj : L j with
   | false => rfl
   | true => rw [hcl j k hj hk hLj hw] at hLk; cases hLk
  by_cases hic : i < c
  ·have hrun := hknown i o hic ho W a hP.ext hold (fun j t hj hw hd => by rw [hat j t (by omega) hd]; exact hP.known j hj (hwt j (by omega) hw))
   unfold Oper.wp
   rw [hrun]
   exact hK _ _ ⟨z, cv, g, hP.put hi (by omega) (by omega) hxl (fun _ => rfl) (by omega) (by omega) (by omega) (by omega) (by omega)⟩
  rcases (by omega : i = c ∨ i = c + 1 ∨ i = c + 2 ∨ i = c + 3 ∨ i = c + 4 ∨ i = c + 5 ∨ i = c + 6) with rfl | rfl | rfl | rfl | rfl | rfl | rfl
  ·have f1 := up _ _ (by omega) (by omega) w1 hL
   have f2 := up _ _ (by omega) (by omega) w2 f1
   have f3 := up _ _ (by omega) (by omega) w3 f1
   have f5 := up _ _ (by omega) (by omega) w5 f2
   have f6 := up _ _ (by omega) (by omega) w6 f3
   obtain ⟨f, args, hrun, hc⟩ := hcall o ho W a hP.ext hold (fun j t hj hw hd => by rw [hat j t (by omega) hd]; exact hP.known j hj (hwt j (by omega) hw))
   unfold Oper.wp
   rw [hrun]
   refine hc.mono ?_
   rintro e w' ⟨z', cs, rfl, hz, hv, hx⟩
   exact hK _ _ ⟨z', cs, g, hP.call hxl (Nat.le_trans hlo hP.ext.size) hS f1 f2 f3 f5 f6 hx hz hv⟩
  ·obtain rfl := Option.some.inj (ho.symm.trans em)
   have hc := hwt c (by omega) w1
   unfold Oper.wp
   rw [zbd pm ((hat c dc (by omega) q0).trans (hP.called hc).1)]
   exact hK _ _ ⟨z, cv, g, hP.put hi (by omega) (by omega) hxl (fun h => by omega) (by omega) (fun _ => rfl) (by omega) (by omega) (by omega)⟩
  ·obtain rfl := Option.some.inj (ho.symm.trans e0)
   have hc := hwt (c + 1) (by omega) w2
   unfold Oper.wp
   rw [zbn p0 ((hat (c + 1) dm (by omega) q1).trans (hP.moved hc)) rfl]
   exact hK _ _ ⟨z, cv, g, hP.put hi (by omega) (by omega) hxl (fun h => by omega) (by omega) (by omega) (fun _ => rfl) (by omega) (by omega)⟩
  ·obtain rfl := Option.some.inj (ho.symm.trans e1)
   have hc := hwt (c + 1) (by omega) w3
   unfold Oper.wp
   rw [zbn p1 ((hat (c + 1) dm (by omega) q1).trans (hP.moved hc)) rfl]
   exact hK _ _ ⟨z, cv, g, hP.put hi (by omega) (by omega) hxl (fun h => by omega) (by omega) (by omega) (by omega) (fun _ => rfl) (by omega)⟩
  ·obtain rfl := Option.some.inj (ho.symm.trans eb)
   have f5 := up _ _ (by omega) (by omega) w54 hL
   unfold Oper.wp
   rw [exec_alloc pb (Tryz.alloc27 W)]
   exact hK _ _ ⟨z, cv, W.heap.size, hP.box hxl hS f5⟩
  ·obtain rfl := Option.some.inj (ho.symm.trans es)
   have k2 := hwt (c + 2) (by omega) w5
   have k4 := hwt (c + 4) (by omega) w54
   have k1 := hcl (c + 2) (c + 1) (by omega) (by omega) k2 w2
   have k0 := hcl (c + 1) c (by omega) (by omega) k1 w1
   obtain ⟨hp, g1, g2⟩ := hP.boxed k4
   have hv := (hP.called k0).2.2
   have hl8 : cv.length = 8 := hv.length
   unfold Oper.wp
   rw [zcv ps ((hat (c + 4) db (by omega) q4).trans hp) ((hat (c + 2) d0 (by omega) q2).trans (hP.first k2)) zaa hl8 (hP.empty k4 hL) (by simp [zeroCells, hl8]) hv.one]
   exact hK undef _ ⟨z, cv, g, hP.store hS k0 k4⟩
  ·obtain rfl := Option.some.inj (ho.symm.trans ea)
   have hc := hwt (c + 3) (by omega) w6
   unfold Oper.wp
   rw [zdg pa ((hat (c + 3) d1 (by omega) q3).trans (hP.second hc))]
   exact hK _ _ ⟨z, cv, g, hP.put hi (by omega) (by omega) hxl (fun h => by omega) (by omega) (by omega) (by omega) (by omega) (fun _ => rfl)⟩
 ·intro L xs W hxl hL hJ
  obtain ⟨z, cv, g, hP⟩ := hJ
  have t : ∀ k, k < 7 → L (c + k) = true := fun k hk => hL _ (by omega)
  obtain ⟨hp, g1, _⟩ := hP.boxed (t 4 (by omega))
  obtain ⟨_, hz, hv⟩ := hP.called (hL c (by omega))
  exact hQ xs W z cv g hxl hP.ext (fun i hi => hP.known i hi (hL i (by omega))) hp g1 (hP.full (t 5 (by omega))) hz (Val.At.mono (fun b hb => ⟨hb.1, hb.2 (t 4 (by omega))⟩) _ _ hv) (hP.assigned (t 6 (by omega)))
theorem region_told {P : Program} {l : List Oper} {a0 : Act} {id : Nat} {Q : Exit → Act → World → Prop} {w : World} (S : Nat → Prop) (lo c n dc : Nat) (hn : n = c + 3) (vs : List Value) (r : Rs) (hm : P.follows .mixedOrders = true) (hB : monoB l n = true) (hg : guardB l n a0.tmps.size = true) (hgn : (l.take n).all (fun o => o.guard.isNone) = true)
  (hS : ∀ b, S b → b < w.heap.size) (hlo : lo ≤ w.heap.size)
  (hops : ∃ oc o0 o1, l[c]? = some oc ∧ l[c + 1]? = some o0 ∧ l[c + 2]? = some o1 ∧ o0.op = .extract (.tmp dc) 0 ∧ o1.op = .extract (.tmp dc) 1) (hdst : zd4 l c dc = true) (hw : zbm l (c + 1) c = true ∧ zbm l (c + 2) c = true)
  (hknown : ∀ i o, i < c → l[i]? = some o → ∀ (W : World) (a : Act), Ext w W → (∀ t, notDst l n t = true → a.eval (.tmp t) = a0.eval (.tmp t)) → (∀ j t, j < c → zbm l i j = true → zd4 l j t = true → a.eval (.tmp t) = vs.getD j undef) → (execOp a.eval o).run P W = .ok (.value (vs.getD i undef)) W)
  (hcall : ∀ o, l[c]? = some o → ∀ (W : World) (a : Act), Ext w W → (∀ t, notDst l n t = true → a.eval (.tmp t) = a0.eval (.tmp t)) → (∀ j t, j < c → zbm l c j = true → zd4 l j t = true → a.eval (.tmp t) = vs.getD j undef) →
   ∃ f args, (execOp a.eval o).run P W = .ok (.enter f args) W ∧ Calls P f args W (RefAns S r W))
  (hQ : ∀ xs W z cs, xs.length = n → Ext w W → (∀ i, i < c → xs.getD i undef = vs.getD i undef) → xs.getD (c + 1) undef = .agg cs.toArray → (r.2 = 0 → z = r.1) → Val.At (fun b => S b ∨ Fresh lo W b) W z cs → xs.getD (c + 2) undef = .int .i64 r.2 →
   wpList P l.toArray Q (l.drop n) (za0 a0 (l.take n) xs) W) : (Code.region id l.toArray true).wp P Q a0 w := by
 subst hn
 obtain ⟨oc, o0, o1, ec, e0, e1, p0, p1⟩ := hops
 obtain ⟨w1, w2⟩ := hw
 have hgd : ∀ i o, i < c + 3 → l[i]? = some o → o.guard = none := fun i o hi ho => by
  have h := List.all_eq_true.1 hgn o (List.mem_of_getElem? (by rw [List.getElem?_take, if_pos hi]; exact ho))
  simpa using h
 have v0 : ∀ i v W, i < c → (if i < c then v = vs.getD i undef else if i = c then TupV S lo r v W else if i = c + 1 then AggV S lo r v W else v = .int .i64 r.2) → v = vs.getD i undef := fun i v W hi h => by rwa [if_pos hi] at h
 have v1 : ∀ v W, (if c < c then v = vs.getD c undef else if c = c then TupV S lo r v W else if c = c + 1 then AggV S lo r v W else v = .int .i64 r.2) → TupV S lo r v W := fun v W h => by rwa [if_neg (by omega), if_pos rfl] at h
 refine region_known (c + 3) (fun i v W => if i < c then v = vs.getD i undef else if i = c then TupV S lo r v W else if i = c + 1 then AggV S lo r v W else v = .int .i64 r.2) hm hB hg (fun i v W W' h k => ?_) (fun i o j b hi ho hgo => by rw [hgd i o hi ho] at hgo; cases hgo) (fun i o hi ho W a hx hold hf Q' K hK => ?_) fun xs W hl hx hv => ?_
 ·split at h
  ·rename_i hi; rw [if_pos hi]; exact h
  ·rename_i hi
   rw [if_neg hi]
   split at h
   ·rename_i h2; rw [if_pos h2]; exact h.ext k
   ·rename_i h2
    rw [if_neg h2]
    split at h
    ·rename_i h3; rw [if_pos h3]; exact h.ext k
    ·rename_i h3; rw [if_neg h3]; exact h
 ·by_cases hic : i < c
  ·have hrun := hknown i o hic ho W a hx hold (fun j t hj hwj hd => v0 j _ W hj (hf j t (by omega) hwj hd))
   exact wp_leaves (Φ := fun v _ => v = vs.getD i undef) hrun (Ext.refl W) rfl fun v w' hx hv => hK v w' hx (by rw [if_pos hic]; exact hv)
  rcases (by omega : i = c ∨ i = c + 1 ∨ i = c + 2) with rfl | rfl | rfl
  ·obtain ⟨f, args, hrun, hc⟩ := hcall o ho W a hx hold (fun j t hj hwj hd => v0 j _ W hj (hf j t (by omega) hwj hd))
   exact wp_asks hrun (fun b hb => Nat.lt_of_lt_of_le (hS b hb) hx.size) (Nat.le_trans hlo hx.size) hc fun v w' hx hv => hK v w' hx (by rw [if_neg (by omega), if_pos rfl]; exact hv)
  ·obtain rfl := Option.some.inj (ho.symm.trans e0)
   exact wp_first p0 (v1 _ W (hf c dc (by omega) w1 hdst)) fun v w' hx hv => hK v w' hx (by rw [if_neg (by omega), if_neg (by omega), if_pos rfl]; exact hv)
  ·obtain rfl := Option.some.inj (ho.symm.trans e1)
   exact wp_second p1 (v1 _ W (hf c dc (by omega) w2 hdst)) fun v w' hx hv => hK v w' hx (by rw [if_neg (by omega), if_neg (by omega), if_neg (by omega)]; exact hv)
 ·have a1 := hv (c + 1) (by omega)
  rw [if_neg (by omega), if_neg (by omega), if_pos rfl] at a1
  have a2 := hv (c + 2) (by omega)
  rw [if_neg (by omega), if_neg (by omega), if_neg (by omega)] at a2
  obtain ⟨_, z, cs, e, hz, hat⟩ := a1
  exact hQ xs W z cs hl hx (fun i hi => v0 i _ W hi (hv i (by omega))) e hz hat a2
end Go.Proofs.YtebfoimbdljbmaaGreatDoor
