/-
  The reference's entity as it must be. The conditions: the entities lie in memory as they should, none is nested deeper than a million.
-/
import Derived.Test.YtbkaffhbhimglaaGreatGi
import Derived.Test.YtbkaffhbhimglaaGreatRow1Q
import Derived.Test.YtbkaffhbhimglaaGreatGf
import Derived.Test.YtbkaffhbhimglaaGreatGd
namespace Go.Proofs.YtbkaffhbhimglaaGreat
open Go.RowKit
open Lib renaming hid → q_
set_option maxRecDepth 100000
set_option maxHeartbeats 4000000
theorem Val.At.kind_is {S : Nat → Prop} {w : World} {v : Val} {k : Int} {cs : List Value} (h : Val.At S w v (.int .i64 k :: cs)) : v.kind = k := by
 cases v with
 | mk kd bo n t ut ui items names =>
  unfold Val.At at h
  obtain ⟨_, _, _, e, _⟩ := h
  injection e with e _
  injection e with _ e
  exact e.symm
theorem entCells_one {u : Uid} {v : Value} {av : List Value} (hv : v.oneCell' = true) (h : ∀ x ∈ av, x.oneCell' = true) : ∀ x ∈ zaq u v av, x.oneCell' = true := fun x hx => by
 simp only [zaq, List.mem_cons] at hx
 rcases hx with rfl | rfl | rfl | hx
 ·rfl
 ·rfl
 ·exact hv
 ·exact h x hx
theorem wp_store_slice {P : Program} {o : Oper} {a : Act} {w : World} {K : Act → World → Prop} {Q : Exit → Act → World → Prop} (ty : TypeId) (x y : Operand) (ho : o.op = .store ty x y)
  (g off : Nat) (hx : a.eval x = .pointer (some ⟨g, off, none⟩)) (A : Option Addr) (n c : Nat) (hy : a.eval y = .slice A n c) (hz : ∀ w, (Go.sizeOf ty).run P w = .ok 1 w)
  (T : TypeId) (cur : Array Value) (hg : w.heap[g]? = some (.cells cur T (0, 0))) (hl : off < cur.size)
  (hk : ∀ w', w'.heap[g]? = some (.cells (cur.setIfInBounds off (.slice A n c)) T (0, 0)) → GrownBy w w' (some g) → K (a.put o.dst undef) w') : o.wp P a w K Q := by
 have hst := run_storeCells_at (P := P) g off T [Value.slice A n c] 0 cur w hg (by simp; omega) (by simp [Value.oneCell'])
 simp only [Nat.add_zero] at hst
 have hst' : ∃ w', (storeVar ty ⟨g, off, none⟩ (.slice A n c)).run P w = .ok () w' ∧ w'.heap[g]? = some (.cells (cur.setIfInBounds off (.slice A n c)) T (0, 0)) ∧ GrownBy w w' (some g) := by
  refine ⟨w.setRow g (cur.toList.take off ++ [Value.slice A n c] ++ cur.toList.drop (off + 1)).toArray, ?_, ?_, GrownBy.setRow _ _ _⟩
  ·simpa [storeVar, hz, Value.cells] using hst
  ·rw [zbx hg]
   congr 2
   apply Array.ext_getElem?
   intro i
   simp only [List.getElem?_toArray, Array.getElem?_setIfInBounds]
   rcases Nat.lt_trichotomy i off with h | h | h
   ·rw [List.append_assoc, List.getElem?_append_left (by simp; omega), List.getElem?_take, if_pos h, if_neg (by omega)]; simp
   ·subst h
    have hm : (cur.toList.take i).length = i := by simp; omega
    rw [List.append_assoc, List.getElem?_append_right (by omega), hm, if_pos rfl, if_pos hl]
    simp
   ·rw [List.getElem?_append_right (by simp; omega), if_neg (by omega), List.getElem?_drop]
    simp
    congr 1
    omega
 obtain ⟨w', h1, h2, h3⟩ := hst'
 unfold Oper.wp execOp
 simp only [ho, hx, hy, Instr.storeAt, Instr.sureAddr, Sem.run_bind, Sem.run_pure, Result.andThen_ok, h1]
 exact hk w' h2 h3
def OneErr (us : List Uid) (x : Ent) (w : World) (e : Ending) (w' : World) : Prop :=
 ∃ (y : Ent) (cs : List Value), e = .returned (.tuple #[.agg cs.toArray, .int .i64 (oneE us x).2]) ∧ entR.At (Fresh w.heap.size w') w' y cs ∧ ((oneE us x).2 = 0 → y = (oneE us x).1) ∧ Ext w w'
theorem oneE_missing {us : List Uid} {x : Ent} (h : x.av.kind = 6) (hb : x.av.canon.2 = 0) {k : Nat} {p : Uid} (hp : x.ps[k]? = some p) (hn : idx us p = none) : (oneE us x).2 = 20 :=
 zdi h hb (List.any_eq_true.2 ⟨p, List.mem_of_getElem? hp, by rw [hn]; rfl⟩)
theorem oneE_all {us : List Uid} {x : Ent} (h : x.av.kind = 6) (hb : x.av.canon.2 = 0) (hp : ∀ p ∈ x.ps, idx us p ≠ none) : oneE us x = (⟨x.uid, sortU ordU x.ps, x.av.canon.1⟩, 0) :=
 oneE_good h hb (List.any_eq_false.2 fun p hm => by
  cases hi : idx us p with
  | none => exact absurd hi (hp p hm)
  | some i => simp)
structure OutAt (w w4 : World) (x : Ent) (avc : List Value) (acc : List Uid) (pv : Value) (W : World) : Prop where
 box : W.heap[w.heap.size + 1 + 1]? = some (.cells (zaq x.uid pv avc).toArray 49 (0, 0))
 own : OwnL uidR 43 w4.heap.size W pv acc
 grown : GrownBy w4 W (some (w.heap.size + 1 + 1))
def StagePut (w w4 : World) (x : Ent) (avc : List Value) (acc : List Uid) (y : Uid) (pv : Value) : List Value → World → Prop
 | [], W => OutAt w w4 x avc acc pv W
 | [v1], W => v1 = pv ∧ OutAt w w4 x avc acc pv W
 | [_, v2], W => OutAt w w4 x avc acc pv W ∧ OwnL uidR 43 w4.heap.size W v2 (zec y false acc)
 | [_, v2, _], W => OutAt w w4 x avc (zec y false acc) v2 W
 | _, _ => False
theorem OutAt.ext {w w4 : World} {x : Ent} {avc : List Value} {acc : List Uid} {pv : Value} {W W' : World} (h : OutAt w w4 x avc acc pv W) (k : Ext W W') : OutAt w w4 x avc acc pv W' :=
 ⟨(k.block _ (zad h.box)).trans h.box, h.own.ext k, h.grown.trans (GrownBy.of_ext _ k)⟩
theorem StagePut.grown {w w4 : World} {x : Ent} {avc : List Value} {acc : List Uid} {y : Uid} {pv : Value} {vs : List Value} {W : World} (h : StagePut w w4 x avc acc y pv vs W) : GrownBy w4 W (some (w.heap.size + 1 + 1)) := by
 match vs, h with
 | [], h => exact OutAt.grown h
 | [_], h => exact h.2.grown
 | [_, _], h => exact h.1.grown
 | [_, _, _], h => exact OutAt.grown h
 | _ :: _ :: _ :: _ :: _, h => exact h.elim
theorem ownU_apart {w w' : World} {base : Nat} {v : Value} {l : List Uid} {r : Option Nat} (h : OwnL uidR 43 base w v l) (k : GrownBy w w' r) (hr : ∀ b, v.ownBlock = some b → r ≠ some b) : OwnL uidR 43 base w' v l := by
 obtain ⟨xs, h1, h2⟩ := h
 exact ⟨xs, zav h1 k hr, za7 h2⟩
theorem wpList_store_part {P : Program} {ops : Array Oper} {rest : List Oper} {op : Oper} {a : Act} {w : World} {Q : Exit → Act → World → Prop} (hgd : op.guard = none) (ty : TypeId) (x y : Operand) (ho : op.op = .store ty x y)
  (g off : Nat) (hx : a.eval x = .pointer (some ⟨g, off, none⟩)) (cs : List Value) (hy : a.eval y = .agg cs.toArray) {n : Nat} (hz : ∀ w, (Go.sizeOf ty).run P w = .ok n w) (hn : cs.length = n)
  (T : TypeId) (cur : Array Value) (hg : w.heap[g]? = some (.cells cur T (0, 0))) (hl : off + cs.length ≤ cur.size) (h1 : ∀ v ∈ cs, v.oneCell' = true)
  (hk : ∀ w', w'.heap[g]? = some (.cells (cur.toList.take off ++ cs ++ cur.toList.drop (off + cs.length)).toArray T (0, 0)) → GrownBy w w' (some g) → wpList P ops Q rest (a.put op.dst undef) w') : wpList P ops Q (op :: rest) a w :=
 zah hgd ty x y ho g off hx cs hy hz hn T cur hg hl h1 (hk _ (zbx hg _) (GrownBy.setRow _ _ _))
theorem zc7 {P : Program} {ops : Array Oper} {rest : List Oper} {op : Oper} {a : Act} {w : World} {Q : Exit → Act → World → Prop} (hgd : op.guard = none) (ty : TypeId) (x y : Operand) (ho : op.op = .store ty x y)
  (g : Nat) (hx : a.eval x = .pointer (some ⟨g, 0, none⟩)) (cs : List Value) (hy : a.eval y = .agg cs.toArray) {n : Nat} (hz : ∀ w, (Go.sizeOf ty).run P w = .ok n w) (hn : cs.length = n)
  (T : TypeId) (cur : Array Value) (hg : w.heap[g]? = some (.cells cur T (0, 0))) (hl : cs.length = cur.size) (h1 : ∀ v ∈ cs, v.oneCell' = true)
  (hk : ∀ w', w'.heap[g]? = some (.cells cs.toArray T (0, 0)) → GrownBy w w' (some g) → wpList P ops Q rest (a.put op.dst undef) w') : wpList P ops Q (op :: rest) a w :=
 wpList_store_whole hgd ty x y ho g hx cs hy hz hn T cur hg hl h1 fun w' e => by subst e; exact hk _ (zbx hg _) (GrownBy.setRow _ _ _)
theorem lst10 {α : Type} {l : List α} (h : l.length = 10) : ∃ a0 a1 a2 a3 a4 a5 a6 a7 a8 a9, l = [a0, a1, a2, a3, a4, a5, a6, a7, a8, a9] := by
 match l, h with
 | [_, _, _, _, _, _, _, _, _, _], _ => exact ⟨_, _, _, _, _, _, _, _, _, _, rfl⟩
theorem told {x : Ent} {us : List Uid} {w w4 W W' : World} {avc : List Value} {acc : List Uid} {pv : Value} {av : Val} {er : Int} (h : OutAt w w4 x avc acc pv W) (hfu : FitU x.uid) (hacc : acc.length ≤ LIM) (hav : Val.At (fun b => w.heap.size + 1 + 1 < b ∧ b < w4.heap.size) w4 av avc) (hx4 : Ext w w4) (hb : w.heap.size + 1 + 1 < w4.heap.size)
  (hg : GrownBy W W' (some (w.heap.size + 1))) (her : er = (oneE us x).2) (hy : (oneE us x).2 = 0 → Ent.mk x.uid acc av = (oneE us x).1) :
  OneErr us x w (.returned (.tuple #[.agg (zaq x.uid pv avc).toArray, .int .i64 er])) W' := by
 have hs := h.grown.size
 have hs2 := hg.size
 refine ⟨⟨x.uid, acc, av⟩, _, by rw [her]; rfl, ⟨pv, avc, rfl, hfu, ?_, ?_⟩, hy, ?_⟩
 ·obtain ⟨xs, o1, o2⟩ := h.own
  have o3 := zav o1 hg fun b hb e => by have := (o1.lt b hb).1; injection e with e; omega
  exact zd3 (R := uidR) o3 (za7 (S' := fun _ => False) o2) hacc (fun b hb => hb.elim) fun b hb => by have h1 := o1.lt b hb; have h2 := hx4.size; exact ⟨by omega, by omega⟩
 ·refine Val.At.mono (S := fun b => w.heap.size + 1 + 1 < b ∧ b < w4.heap.size) ?_ _ _ (hav.alike (w' := W') fun b hb => ?_)
  ·intro b hb'; have := hx4.size; exact ⟨by omega, by omega⟩
  ·rw [hg.block b (by omega) (fun e => by injection e with e; omega), h.grown.block b hb.2 (fun e => by injection e with e; omega)]
 ·exact zas (zas hx4 h.grown fun b e => by injection e with e; omega) hg fun b e => by injection e with e; omega
theorem one5_ok (S : Nat → Prop) (l : List Ent) (x : Ent) (v : Value) (cs : List Value) (w : World) (hS : ∀ b, S b → b < w.heap.size) (hl : entR.RowsAt S w l v) (hx : entR.At S w x cs) (hd : x.av.dep ≤ 1000000) (hps : x.ps.length ≤ 1000) :
  Calls Tryz.prog 65 #[v, .agg cs.toArray] w (OneErr (l.map Ent.uid) x w) := by
 have HS := q_ hS
 have HL := q_ hl
 have HD := q_ hd
 obtain ⟨A, cap, rfl, ⟨hl0, hl1, hl2⟩, _⟩ := hl
 rw [zab] at hl2
 obtain ⟨pv, acs, rfl, hfu, hpr, hat⟩ := hx
 obtain ⟨A1, c1, rfl, ⟨p0, p1, p2⟩, hrow⟩ := hpr
 rw [zab] at p2
 obtain ⟨ka, ba, na, ta, uta, uia, Aa, la, ca, Ab, lb, cb, rfl⟩ := hat.shape
 have HK := q_ hat.kind_is
 have Hat := q_ hat
 have HFu := q_ hfu
 have HRow := q_ hrow
 clear hS hd hl0 p0 hfu hat hrow
 go_enter Tryz.func65, Tryz.ntmps65
 by_cases hk6 : ka = 6
 ·subst hk6
  go_wp2_with fail
  obtain ⟨W0, hW0⟩ : ∃ W0, W0 = ((w.alloc (.cells (zaq x.uid (.slice A1 x.ps.length c1) [.int .i64 6, .bool ba, .int .i64 na, .string ta, .string uta, .string uia, .slice Aa la ca, .slice Ab lb cb]).toArray 49)).alloc (.cells (zaq (ByteArray.empty, ByteArray.empty) (.slice none 0 0) zeroCells).toArray 49)).alloc (.cells (zaq x.uid (.slice none 0 0) zeroCells).toArray 49) := ⟨_, rfl⟩
  have q0 : W0.heap[w.heap.size]? = some (.cells (zaq x.uid (.slice A1 x.ps.length c1) [.int .i64 6, .bool ba, .int .i64 na, .string ta, .string uta, .string uia, .slice Aa la ca, .slice Ab lb cb]).toArray 49 (0, 0)) := by
   rw [hW0, heap_alloc_old _ _ (by simp; omega), heap_alloc_old _ _ (by simp)]; exact heap_alloc_new _ _
  have q1 : W0.heap[w.heap.size + 1]? = some (.cells (zaq (ByteArray.empty, ByteArray.empty) (.slice none 0 0) zeroCells).toArray 49 (0, 0)) := by
   rw [hW0, heap_alloc_old _ _ (by simp)]; exact zay (by simp) _
  have q2 : W0.heap[w.heap.size + 1 + 1]? = some (.cells (zaq x.uid (.slice none 0 0) zeroCells).toArray 49 (0, 0)) := by
   rw [hW0]; exact zay (by simp) _
  have qx : Ext w W0 := by rw [hW0]; exact (((Ext.refl w).alloc _).alloc _).alloc _
  have qs : W0.heap.size = w.heap.size + 1 + 1 + 1 := by rw [hW0]; simp
  change Calls Tryz.prog _ _ (((w.alloc (.cells (zaq x.uid (.slice A1 x.ps.length c1) [.int .i64 6, .bool ba, .int .i64 na, .string ta, .string uta, .string uia, .slice Aa la ca, .slice Ab lb cb]).toArray 49)).alloc (.cells (zaq (ByteArray.empty, ByteArray.empty) (.slice none 0 0) zeroCells).toArray 49)).alloc (.cells (zaq x.uid (.slice none 0 0) zeroCells).toArray 49)) _
  rw [← hW0]
  have HSW : Hid (∀ b, S b → b < W0.heap.size) := q_ fun b hb => Nat.lt_of_lt_of_le (HS.out b hb) qx.size
  have HatW := q_ (Hat.out.alike (Alike.of_ext qx HS.out))
  have Q0 := q_ q0
  have Q1 := q_ q1
  have Q2 := q_ q2
  have QX := q_ qx
  have QS := q_ qs
  clear q0 q1 q2 qx qs hW0
  refine (canon_okR x.av S W0 [_, _, _, _, _, _, _, _] HD.out HSW.out HatW.out).mono ?_
  rintro e w3 ⟨cs3, rfl, hat3, hx3⟩
  obtain ⟨r0, r1, r2, r3, r4, r5, r6, r7, r8, r9, ra, rb, rfl⟩ := hat3.shape
  have HX3 := q_ hx3
  have HA3 := q_ hat3
  clear hx3 hat3
  obtain ⟨w4, hw4⟩ : ∃ w4, w4 = w3.alloc (.cells [.int .i64 r0, .bool r1, .int .i64 r2, .string r3, .string r4, .string r5, .slice r6 r7 r8, .slice r9 ra rb].toArray 46) := ⟨_, rfl⟩
  have x34 : Ext w3 w4 := by rw [hw4]; exact (Ext.refl w3).alloc _
  have x04 : Ext W0 w4 := HX3.out.trans x34
  have HX4 := q_ (QX.out.trans x04)
  have Hb4 : Hid (w.heap.size + 1 + 1 < w4.heap.size) := q_ (by have := x04.size; have := QS.out; omega)
  have HB0 := q_ ((x04.block _ (zad Q0.out)).trans Q0.out)
  have HB1 := q_ ((x04.block _ (zad Q1.out)).trans Q1.out)
  have HB2 := q_ ((x04.block _ (zad Q2.out)).trans Q2.out)
  have HB7 : Hid (w4.heap[w3.heap.size]? = some (.cells [.int .i64 r0, .bool r1, .int .i64 r2, .string r3, .string r4, .string r5, .slice r6 r7 r8, .slice r9 ra rb].toArray 46 (0, 0))) := q_ (by rw [hw4]; exact heap_alloc_new _ _)
  have HA4 : Hid (Val.At (fun b => w.heap.size + 1 + 1 < b ∧ b < w4.heap.size) w4 x.av.canon.1 [.int .i64 r0, .bool r1, .int .i64 r2, .string r3, .string r4, .string r5, .slice r6 r7 r8, .slice r9 ra rb]) := q_ (Val.At.mono (S := Fresh W0.heap.size w3) (fun b hb => by
   have h1 := hb.1; have h2 := hb.2; have h3 := QS.out; have h4 := x34.size
   exact ⟨by omega, by omega⟩) _ _ (HA3.out.alike (Alike.of_ext x34 fun b hb => hb.2)))
  clear x34 x04
  subst hw4
  by_cases hbv : x.av.canon.2 = 0
  ·have t7 : (x.av.canon.2 != 0) = false := by simpa using hbv
   have Hbv := q_ hbv
   clear hbv
   go_wp2_with (refine wpList_store_part rfl 46 _ _ rfl (w.heap.size + 1 + 1) 3 rfl [.int .i64 r0, .bool r1, .int .i64 r2, .string r3, .string r4, .string r5, .slice r6 r7 r8, .slice r9 ra rb] rfl zaf rfl 49 (zaq x.uid (.slice none 0 0) zeroCells).toArray HB2.out (by simp [zaq, zeroCells]) (by simp [Value.oneCell']) ?_; intro w5 hb5 hg5)
   have HOut0 : Hid (OutAt w (w3.alloc (.cells [.int .i64 r0, .bool r1, .int .i64 r2, .string r3, .string r4, .string r5, .slice r6 r7 r8, .slice r9 ra rb].toArray 46)) x [.int .i64 r0, .bool r1, .int .i64 r2, .string r3, .string r4, .string r5, .slice r6 r7 r8, .slice r9 ra rb] [] (.slice none 0 0) w5) := q_ ⟨hb5, OwnL.nil, hg5⟩
   clear hb5 hg5
   generalize hW4 : (w3.alloc (.cells [.int .i64 r0, .bool r1, .int .i64 r2, .string r3, .string r4, .string r5, .slice r6 r7 r8, .slice r9 ra rb].toArray 46)) = w4 at *
   clear hW4
   go_loopw [9] (fun k' wr => ∃ (k : Nat) (acc : List Uid) (pv : Value), k ≤ x.ps.length ∧ k' = .int .i64 k ∧ Hid (acc = sortU ordU (x.ps.take k)) ∧ acc.length ≤ k ∧ Hid (∀ (j : Nat) (p : Uid), j < k → x.ps[j]? = some p → idx (l.map Ent.uid) p ≠ none) ∧ Hid (OutAt w w4 x [.int .i64 r0, .bool r1, .int .i64 r2, .string r3, .string r4, .string r5, .slice r6 r7 r8, .slice r9 ra rb] acc pv wr)) (fun k' _ => x.ps.length - (intOf k').toNat)
   case atStart => exact ⟨0, [], .slice none 0 0, Nat.zero_le _, rfl, q_ (by simp [sortU]), Nat.le_refl _, q_ fun _ _ h => by omega, HOut0⟩
   case round =>
    clear HOut0
    obtain ⟨k, acc, pv, hk, rfl, HAcc, hal, HAll, HOut⟩ := hrel
    obtain ⟨Ap, cp, epv⟩ := HOut.out.own.shape
    subst epv
    have HXw : Hid (Ext w wr) := q_ (zas HX4.out HOut.out.grown fun b e => by injection e with e; omega)
    have HB0' := q_ ((HOut.out.grown.block _ (zad HB0.out) (fun e => by injection e with e; omega)).trans HB0.out)
    have HB1' := q_ ((HOut.out.grown.block _ (zad HB1.out) (fun e => by injection e with e; omega)).trans HB1.out)
    have c2 := cell_of_row _ _ 2 _ _ _ HB0'.out
    simp only [zaq, List.getElem?_toArray, List.getElem?_cons_succ, List.getElem?_cons_zero] at c2
    by_cases hlt : k < x.ps.length
    ·obtain ⟨b2, o2, rfl, hSb2, hrow2⟩ := HRow.out (by omega)
     obtain ⟨y, hy⟩ : ∃ y, x.ps[k]? = some y := ⟨_, List.getElem?_eq_getElem hlt⟩
     obtain ⟨cs2, hca2, rfl, hfy⟩ := hrow2 k y hy
     have c0 : wr.cell? ⟨b2, o2 + k * 2, none⟩ = some (.string y.1) := HXw.out.cell (hca2 0 _ rfl)
     have c1' : wr.cell? ⟨b2, o2 + k * 2 + 1, none⟩ = some (.string y.2) := HXw.out.cell (hca2 1 _ rfl)
     have Hca2 := q_ (show CellsAt w b2 (o2 + k * 2) [.string y.1, .string y.2] from hca2)
     have Hb2 := q_ (HS.out b2 hSb2)
     have Hy := q_ hy
     have HFy := q_ hfy
     clear hy hca2 hrow2 hfy hSb2
     go_wp2_with fail
     refine (find5_ok S l _ y wr (fun b hb => Nat.lt_of_lt_of_le (HS.out b hb) HXw.out.size) (HL.out.alike (Alike.of_ext HXw.out HS.out))).mono ?_
     rintro e w6 ⟨rfl, hx6⟩
     have HOut6 := q_ (HOut.out.ext hx6)
     have HB16 := q_ ((hx6.block _ (zad HB1'.out)).trans HB1'.out)
     have HB06 := q_ ((hx6.block _ (zad HB0'.out)).trans HB0'.out)
     clear hx6 c0 c1' c2 HOut HB0' HB1' HXw
     cases hf : idx (l.map Ent.uid) y with
     | none =>
      rw [findI_none hf]
      have Hf := q_ (oneE_missing (us := l.map Ent.uid) HK.out Hbv.out Hy.out hf)
      clear hf
      have HOut := HOut6
      have HB1' := HB16
      clear HOut6 HB16
      go_wp2_with (first | (refine zac rfl 49 _ rfl (w.heap.size + 1 + 1) 0 rfl za0 zau rfl (zat HOut.out.box) ?_) | (refine zc7 rfl 49 _ _ rfl (w.heap.size + 1) rfl (zaq x.uid (.slice Ap acc.length cp) [.int .i64 r0, .bool r1, .int .i64 r2, .string r3, .string r4, .string r5, .slice r6 r7 r8, .slice r9 ra rb]) rfl zau rfl 49 (zaq (ByteArray.empty, ByteArray.empty) (.slice none 0 0) zeroCells).toArray HB1'.out rfl (entCells_one rfl (by simp [Value.oneCell'])) ?_; intro w9 hw9 hg9))
      refine bodyPost_ret (v := .tuple #[.agg (zaq x.uid (.slice Ap acc.length cp) [.int .i64 r0, .bool r1, .int .i64 r2, .string r3, .string r4, .string r5, .slice r6 r7 r8, .slice r9 ra rb]).toArray, .int .i64 20]) (zaj Tryz.results65 rfl za0 zau rfl (zat hw9)) rfl ?_
      exact told HOut.out HFu.out (by rw [zak]; omega) HA4.out HX4.out Hb4.out hg9 Hf.out.symm (fun h => absurd (Hf.out.symm.trans h) (by decide))
     | some p =>
      rw [zdg hf]
      have Hf := q_ hf
      clear hf
      go_wp2_with fail
      refine staged_region 10 [1, 7, 9] [.pointer (some ⟨(w.heap.size + 1 + 1), 2, none⟩), undef, .pointer (some ⟨w.heap.size, 2, none⟩), .slice (some ⟨b2, o2, none⟩) x.ps.length c1, .int .i64 k, .pointer (some ⟨b2, o2 + k * 2, none⟩), .agg #[.string y.1, .string y.2], undef, .pointer (some ⟨(w.heap.size + 1 + 1), 2, none⟩), undef]
       (StagePut w w4 x [.int .i64 r0, .bool r1, .int .i64 r2, .string r3, .string r4, .string r5, .slice r6 r7 r8, .slice r9 ra rb] acc y (.slice Ap acc.length cp)) (by kernel_rfl) (by kernel_rfl) (by kernel_rfl) (by kernel_rfl)
       (HOut6.out.ext (show Ext w6 w6.drew from ⟨⟨rfl, rfl, rfl, Nat.le_refl _, fun _ _ => rfl⟩, Nat.le_succ _⟩)) (fun i op hi hn ho vs W a hRR hold hat => ?_) (fun k' i op hk ho vs W a hvl hRR hold hat Q' K hK => ?_) ?_
      ·have hgW := hRR.grown
       have hb0 : W.heap[w.heap.size]? = _ := (hgW.block _ (zad HB0.out) (fun e => by injection e with e; omega)).trans HB0.out
       rcases (by simp at hn; omega : i = 0 ∨ i = 2 ∨ i = 3 ∨ i = 4 ∨ i = 5 ∨ i = 6 ∨ i = 8) with rfl | rfl | rfl | rfl | rfl | rfl | rfl <;> obtain rfl := Option.some.inj ho
       ·exact zbq _ _ _ rfl (hold 6 (by kernel_rfl)) (zev (w.heap.size + 1 + 1))
       ·exact zbq _ _ _ rfl (hold 3 (by kernel_rfl)) (zev w.heap.size)
       ·exact zbd _ _ rfl w.heap.size 2 (hat 2 48 (by omega) (by kernel_rfl) (by kernel_rfl)) Tryz.agg58 (by rw [cell_of_row _ _ _ _ _ _ hb0]; rfl)
       ·exact zb4 rfl (hold 9 (by kernel_rfl))
       ·exact exec_index (i := k) rfl (hat 3 49 (by omega) (by kernel_rfl) (by kernel_rfl)) (hat 4 50 (by omega) (by kernel_rfl) (by kernel_rfl)) Tryz.underlying47 zbk (by omega)
       ·exact za5 _ _ rfl b2 _ (hat 5 51 (by omega) (by kernel_rfl) (by kernel_rfl)) (cs := [.string y.1, .string y.2]) zb8 zbk rfl (Hca2.out.alike (S := fun c => c = b2) rfl (fun c hc => by
         subst hc
         have h1 := Hb2.out
         have h2 := HX4.out.size
         rw [hgW.block c (by omega) (fun e => by injection e with e; omega)]
         exact HX4.out.block c h1))
       ·exact zbq _ _ _ rfl (hold 6 (by kernel_rfl)) (zev (w.heap.size + 1 + 1))
      ·have hk4 : k' < 3 := by simpa using (List.getElem?_eq_some_iff.1 hk).1
       rcases (by omega : k' = 0 ∨ k' = 1 ∨ k' = 2) with rfl | rfl | rfl <;> obtain rfl := Option.some.inj hk <;> obtain rfl := Option.some.inj ho
       ·obtain rfl := List.eq_nil_of_length_eq_zero hvl
        have hR0 : OutAt w w4 x [.int .i64 r0, .bool r1, .int .i64 r2, .string r3, .string r4, .string r5, .slice r6 r7 r8, .slice r9 ra rb] acc (.slice Ap acc.length cp) W := hRR
        exact wp_value2 (zbd _ _ rfl (w.heap.size + 1 + 1) 2 (hat 0 46 (by omega) (by kernel_rfl) (by kernel_rfl)) Tryz.agg58 (by rw [cell_of_row _ _ _ _ _ _ hR0.box]; rfl)) (hK _ _ ⟨rfl, hR0⟩)
       ·obtain ⟨v1, rfl⟩ := lst1 hvl
        obtain ⟨rfl, hR0⟩ := hRR
        refine wp_enter2 (Φ := fun v w' => OutAt w w4 x [.int .i64 r0, .bool r1, .int .i64 r2, .string r3, .string r4, .string r5, .slice r6 r7 r8, .slice r9 ra rb] acc (.slice Ap acc.length cp) w' ∧ OwnL uidR 43 w4.heap.size w' v (zec y false acc)) (zc3 Tryz.func90 rfl rfl rfl (map_two (hat 1 47 (by omega) (by kernel_rfl) (by kernel_rfl)) (hat 6 52 (by omega) (by kernel_rfl) (by kernel_rfl)))) ?_ (fun v w' h => hK _ _ h)
        refine (put5_ok (fun b => b < W.heap.size) acc (.slice Ap acc.length cp) y W (fun _ h => h) (hR0.own.rows (by rw [zak]; omega)) HFy.out (by omega)).mono ?_
        rintro e w' ⟨v', rfl, ho', hx'⟩
        exact ⟨_, rfl, hR0.ext hx', ho'.low hR0.grown.size⟩
       ·obtain ⟨v1, v2, rfl⟩ := lst2 hvl
        obtain ⟨hR0, hO2⟩ := hRR
        obtain ⟨A2, c2, rfl⟩ := hO2.shape
        refine wp_store_slice _ _ _ rfl (w.heap.size + 1 + 1) 2 (hat 8 54 (by omega) (by kernel_rfl) (by kernel_rfl)) A2 (zec y false acc).length c2 (hat 7 53 (by omega) (by kernel_rfl) (by kernel_rfl)) (fun _ => by kernel_rfl) 49 _ hR0.box (by simp [zaq]) (fun w' hb' hg' => hK _ _ ⟨by rw [hb']; simp [zaq], ownU_apart hO2 hg' fun b hb e => ?_, hR0.grown.trans hg'⟩)
        have h1 := (hO2.lt b hb).1
        have h2 := Hb4.out
        injection e with e
        omega
      ·intro zs vs W hzl hvl hRR hzs
       obtain ⟨v1, v2, v3, rfl⟩ := lst3 hvl
       obtain ⟨z0, z1, z2, z3, z4, z5, z6, z7, z8, z9, rfl⟩ := lst10 hzl
       have HOut7 : Hid (OutAt w w4 x [.int .i64 r0, .bool r1, .int .i64 r2, .string r3, .string r4, .string r5, .slice r6 r7 r8, .slice r9 ra rb] (zec y false acc) v2 W) := q_ hRR
       have hins : zec y false acc = sortU ordU (x.ps.take (k + 1)) := by
        rw [zdh Hy.out, ← HAcc.out]
        exact putU_ins (by rw [HAcc.out]; exact za3 GoodAt.ordU _)
       have HIns := q_ hins
       have hlen7 : (zec y false acc).length ≤ k + 1 := by
        rw [hins]
        exact Nat.le_trans (zci _) (by rw [List.length_take]; omega)
       clear hzs hzl hvl hRR hins
       simp only [List.take, List.drop, zaw]
       go_wp2_with fail
       go_roundw
       case rel => exact ⟨k + 1, _, _, by omega, by go_num, HIns, hlen7, q_ fun j p hj hp => by
        by_cases hjk : j = k
        ·subst hjk; rw [Hy.out] at hp; cases hp; rw [Hf.out]; simp
        ·exact HAll.out j p (by omega) hp, HOut7⟩
       case measure => simp [intOf]; omega
    ·have hke : k = x.ps.length := by omega
     have HGood : Hid (oneE (l.map Ent.uid) x = (⟨x.uid, acc, x.av.canon.1⟩, 0)) := q_ (by
      rw [HAcc.out, hke, List.take_length]
      exact oneE_all HK.out Hbv.out fun p hp => by
       obtain ⟨j, hj⟩ := List.mem_iff_getElem?.1 hp
       exact HAll.out j p (by rw [hke]; exact (List.getElem?_eq_some_iff.1 hj).1) hj)
     clear hke HB0'
     go_wp2_with (first | (refine zac rfl 49 _ rfl (w.heap.size + 1 + 1) 0 rfl za0 zau rfl (zat HOut.out.box) ?_) | (refine zc7 rfl 49 _ _ rfl (w.heap.size + 1) rfl (zaq x.uid (.slice Ap acc.length cp) [.int .i64 r0, .bool r1, .int .i64 r2, .string r3, .string r4, .string r5, .slice r6 r7 r8, .slice r9 ra rb]) rfl zau rfl 49 (zaq (ByteArray.empty, ByteArray.empty) (.slice none 0 0) zeroCells).toArray HB1'.out rfl (entCells_one rfl (by simp [Value.oneCell'])) ?_; intro w9 hw9 hg9))
     refine bodyPost_ret (v := .tuple #[.agg (zaq x.uid (.slice Ap acc.length cp) [.int .i64 r0, .bool r1, .int .i64 r2, .string r3, .string r4, .string r5, .slice r6 r7 r8, .slice r9 ra rb]).toArray, .int .i64 0]) (zaj Tryz.results65 rfl za0 zau rfl (zat hw9)) rfl ?_
     exact told HOut.out HFu.out (by rw [zak]; omega) HA4.out HX4.out Hb4.out hg9 (by rw [HGood.out]) (fun _ => by rw [HGood.out])
  ·have t7 : (x.av.canon.2 != 0) = true := by simpa using hbv
   have Hbv := q_ (zd8 (us := l.map Ent.uid) HK.out hbv)
   have Hbn := q_ hbv
   have HOut : Hid (OutAt w (w3.alloc (.cells [.int .i64 r0, .bool r1, .int .i64 r2, .string r3, .string r4, .string r5, .slice r6 r7 r8, .slice r9 ra rb].toArray 46)) x zeroCells [] (.slice none 0 0) (w3.alloc (.cells [.int .i64 r0, .bool r1, .int .i64 r2, .string r3, .string r4, .string r5, .slice r6 r7 r8, .slice r9 ra rb].toArray 46))) := q_ ⟨HB2.out, OwnL.nil, GrownBy.of_ext _ (Ext.refl _)⟩
   have HB1' := HB1
   clear hbv
   go_wp2_with (first | (refine zac rfl 49 _ rfl (w.heap.size + 1 + 1) 0 rfl za0 zau rfl (zat HOut.out.box) ?_) | (refine zc7 rfl 49 _ _ rfl (w.heap.size + 1) rfl (zaq x.uid (.slice none 0 0) zeroCells) rfl zau rfl 49 (zaq (ByteArray.empty, ByteArray.empty) (.slice none 0 0) zeroCells).toArray HB1'.out rfl (entCells_one rfl (Val.At.one (S := fun _ => False) (w := w) (Val.zero_at _ _))) ?_; intro w9 hw9 hg9))
   refine bodyPost_ret (v := .tuple #[.agg (zaq x.uid (.slice none 0 0) zeroCells).toArray, .int .i64 x.av.canon.2]) (zaj Tryz.results65 rfl za0 zau rfl (zat hw9)) rfl ?_
   exact told HOut.out HFu.out (Nat.zero_le _) (Val.zero_at _ _) HX4.out Hb4.out hg9 Hbv.out.symm (fun h => absurd (Hbv.out.symm.trans h) Hbn.out)
 ·have e6 : (ka != 6) = true := by simpa using hk6
  have HB := q_ (zda (us := l.map Ent.uid) (x := x) (by rw [HK.out]; exact hk6))
  clear hk6
  go_wp2_with fail
  refine bodyPost_ret (v := .tuple #[.agg (zaq x.uid (.slice none 0 0) zeroCells).toArray, .int .i64 1]) (zaj Tryz.results65 rfl za0 zau rfl (zat (T := 49) (by rw [heap_alloc_old _ _ (by simp)]; exact zay (by simp) _))) rfl ?_
  refine ⟨⟨x.uid, [], .zero⟩, _, by rw [HB.out]; rfl, ⟨_, _, rfl, HFu.out, Rep.RowsAt.nil _ _, Val.zero_at _ _⟩, fun h => ?_, (((Ext.refl w).alloc _).alloc _).alloc _⟩
  rw [HB.out] at h; cases h
end Go.Proofs.YtbkaffhbhimglaaGreat

/-
  A row of entities that a call makes itself, each with a row of parents of its own: laid, added to, written. The conditions: none.
-/
namespace Go.Proofs.YtbkaffhbhimglaaGreat
open Go.RowKit
/-! ### a row of entities that a call makes itself, each with a row of parents -/
def zbr (es : List Ent) (pvs : List Value) : List Value := ((es.zip pvs).map fun p => zaq p.1.uid p.2 recC).flatten
structure Chain (base : Nat) (W : World) (v : Value) (es : List Ent) (pvs : List Value) : Prop where
 len : pvs.length = es.length
 row : W.ownsRow base 49 11 v es.length (zbr es pvs)
 fit : ∀ e ∈ es, FitU e.uid ∧ e.av = recV ∧ e.ps.length ≤ 2
 pars : ∀ (i : Nat) (e : Ent) (pv : Value), es[i]? = some e → pvs[i]? = some pv → ∃ xs, W.ownsRow base 43 2 pv e.ps.length xs ∧ uidR.Flat (fun _ => True) W e.ps xs
 apart : ∀ (i j : Nat) (p q : Value) (b : Nat), pvs[i]? = some p → pvs[j]? = some q → p.ownBlock = some b → q.ownBlock = some b → i = j
theorem Chain.nil (base : Nat) (W : World) : Chain base W (.slice none 0 0) [] [] :=
 ⟨rfl, World.ownsRow_nil _ _ _ _, fun _ h => by simp at h, fun _ _ _ h => by simp at h, fun _ _ _ _ _ h => by simp at h⟩
theorem Chain.later {base : Nat} {W W' : World} {v : Value} {es : List Ent} {pvs : List Value} (h : Chain base W v es pvs) (k : Ext W W') : Chain base W' v es pvs :=
 ⟨h.len, zam h.row k, h.fit, fun i e pv he hp => let ⟨xs, h1, h2⟩ := h.pars i e pv he hp; ⟨xs, zam h1 k, za7 h2⟩, h.apart⟩
theorem ne6023 : (49 : TypeId) ≠ 43 := by decide
theorem Chain.push {base : Nat} {wr W1 W2 w2 : World} {v v' : Value} {es : List Ent} {pvs : List Value} {e : Ent} {pv : Value} {xs : List Value} (h : Chain base wr v es pvs) (h1 : Ext wr W1) (h2 : Ext W1 W2) (hfit : FitU e.uid ∧ e.av = recV ∧ e.ps.length ≤ 2)
  (hown : W1.ownsRow base 43 2 pv e.ps.length xs) (hf : uidR.Flat (fun _ => True) W1 e.ps xs) (hnew : ∀ b, pv.ownBlock = some b → wr.heap.size ≤ b)
  (hrow : w2.ownsRow base 49 11 v' (es.length + 1) (zbr es pvs ++ zaq e.uid pv recC)) (hg : GrownBy W2 w2 v.ownBlock) : Chain base w2 v' (es ++ [e]) (pvs ++ [pv]) := by
 have hlen := h.len
 refine ⟨by simp [hlen], ?_, fun x hx => ?_, fun i x q hx hq => ?_, fun i j p q b hp hq hb hc => ?_⟩
 ·rw [List.length_append, List.length_singleton]
  have : zbr (es ++ [e]) (pvs ++ [pv]) = zbr es pvs ++ zaq e.uid pv recC := by
   unfold zbr
   rw [List.zip_append hlen.symm]
   simp
  rw [this]; exact hrow
 ·rcases List.mem_append.1 hx with hx | hx
  ·exact h.fit x hx
  ·simp at hx; subst hx; exact hfit
 ·by_cases hi : i < es.length
  ·rw [List.getElem?_append_left hi] at hx
   rw [List.getElem?_append_left (by omega)] at hq
   obtain ⟨ys, o1, o2⟩ := h.pars i x q hx hq
   exact ⟨ys, zav (zam o1 (h1.trans h2)) hg fun b hb hc => row_types h.row o1 ne6023 hc hb, za7 o2⟩
  ·rw [List.getElem?_append_right (by omega)] at hx
   rw [List.getElem?_append_right (by omega)] at hq
   have hi0 : i = es.length := by
    have := (List.getElem?_eq_some_iff.1 hx).1
    simp at this; omega
   subst hi0
   simp at hx; subst hx
   rw [show es.length - pvs.length = 0 by omega] at hq
   simp at hq; subst hq
   exact ⟨xs, zav (zam hown h2) hg fun b hb hc => by have := hnew b hb; have := (h.row.lt b hc).2; omega, za7 hf⟩
 ·have key : ∀ (i : Nat) (p : Value) (b : Nat), (pvs ++ [pv])[i]? = some p → p.ownBlock = some b → (i < pvs.length ∧ pvs[i]? = some p ∧ b < wr.heap.size) ∨ (i = pvs.length ∧ wr.heap.size ≤ b) := fun i p b hp hb => by
   by_cases hi : i < pvs.length
   ·rw [List.getElem?_append_left hi] at hp
    obtain ⟨x, hx⟩ : ∃ x, es[i]? = some x := ⟨_, List.getElem?_eq_getElem (by omega)⟩
    obtain ⟨ys, o1, _⟩ := h.pars i x p hx hp
    exact .inl ⟨hi, hp, (o1.lt b hb).2⟩
   ·rw [List.getElem?_append_right (by omega)] at hp
    have hi0 : i = pvs.length := by
     have := (List.getElem?_eq_some_iff.1 hp).1
     simp at this; omega
    subst hi0
    simp at hp; subst hp
    exact .inr ⟨rfl, hnew b hb⟩
  rcases key i p b hp hb with ⟨_, h5, h6⟩ | ⟨h5, h6⟩
  ·rcases key j q b hq hc with ⟨_, h7, h8⟩ | ⟨h7, h8⟩
   ·exact h.apart i j p q b h5 h7 hb hc
   ·omega
  ·rcases key j q b hq hc with ⟨_, h7, h8⟩ | ⟨h7, h8⟩
   ·omega
   ·omega
theorem chainCells_rows (es : List Ent) (pvs : List Value) : ∀ r ∈ (es.zip pvs).map (fun p => zaq p.1.uid p.2 recC), r.length = 11 := fun r hr => by
 obtain ⟨p, _, rfl⟩ := List.mem_map.1 hr
 rfl
theorem Chain.flat {base : Nat} {W : World} {v : Value} {es : List Ent} {pvs : List Value} (h : Chain base W v es pvs) : entR.Flat (fun b => b < W.heap.size) W es (zbr es pvs) := by
 have key : ∀ (es : List Ent) (pvs : List Value), pvs.length = es.length → (∀ e ∈ es, FitU e.uid ∧ e.av = recV ∧ e.ps.length ≤ 2) → (∀ (i : Nat) (e : Ent) (pv : Value), es[i]? = some e → pvs[i]? = some pv → uidR.RowsAt (fun b => b < W.heap.size) W e.ps pv) → entR.Flat (fun b => b < W.heap.size) W es (zbr es pvs) := by
  intro es
  induction es with
  | nil => intro pvs _ _ _; simp [zbr, Rep.Flat]
  | cons e r ih =>
   intro pvs hl hf hp
   cases pvs with
   | nil => simp at hl
   | cons q qs =>
    have hfe := hf e (by simp)
    refine ⟨zaq e.uid q recC, zbr r qs, by simp [zbr], ⟨q, recC, rfl, hfe.1, hp 0 e q rfl rfl, by rw [hfe.2.1]; exact recV_at _ _⟩, ih qs (by simpa using hl) (fun x hx => hf x (by simp [hx])) fun i x y hx hy => hp (i + 1) x y (by simpa using hx) (by simpa using hy)⟩
 refine key es pvs h.len h.fit fun i e pv he hp => ?_
 obtain ⟨xs, o1, o2⟩ := h.pars i e pv he hp
 exact zd3 (R := uidR) o1 (za7 (S' := fun _ => False) o2) (by have := (h.fit e (List.mem_of_getElem? he)).2.2; rw [zak]; omega) (fun b hb => hb.elim) fun b hb => (o1.lt b hb).2
theorem Rep.Flat.take_drop {α : Type} {R : Rep α} {S : Nat → Prop} {w : World} : ∀ {l : List α} {xs : List Value} (n : Nat), R.Flat S w l xs → R.Flat S w (l.take n) (xs.take (n * R.size)) ∧ R.Flat S w (l.drop n) (xs.drop (n * R.size))
 | l, xs, 0, h => by simp [Rep.Flat]; exact h
 | [], xs, n + 1, h => by simp only [Rep.Flat] at h; subst h; simp [Rep.Flat]
 | x :: r, xs, n + 1, ⟨c, ys, e, hv, hr⟩ => by
  subst e
  have hl := R.len hv
  obtain ⟨h1, h2⟩ := Rep.Flat.take_drop n hr
  rw [Nat.succ_mul]
  constructor
  ·rw [List.take_succ_cons, List.take_append, List.take_of_length_le (l := c) (by omega), show n * R.size + R.size - c.length = n * R.size by omega]
   exact ⟨c, _, rfl, hv, h1⟩
  ·rw [List.drop_succ_cons, List.drop_append, show c.drop (n * R.size + R.size) = [] from List.drop_eq_nil_of_le (by omega), List.nil_append, show n * R.size + R.size - c.length = n * R.size by omega]
   exact h2
theorem flatten_at {sz : Nat} : ∀ {rows : List (List Value)} {i j : Nat} {r : List Value} {u : Value}, (∀ r ∈ rows, r.length = sz) → rows[i]? = some r → r[j]? = some u → rows.flatten[i * sz + j]? = some u := fun h1 h2 h3 => zb7 h1 h2 h3
theorem row_cell {base g n cap : Nat} {W : World} {es : List Ent} {pvs : List Value} (hrow : W.ownsRow base 49 11 (.slice (some ⟨g, 0, none⟩) n cap) es.length (zbr es pvs)) {i : Nat} {e : Ent} {pv : Value} (he : es[i]? = some e) (hp : pvs[i]? = some pv) : W.cell? ⟨g, i * 11 + 2, none⟩ = some pv ∧ W.frozen? ⟨g, i * 11 + 2, none⟩ = false ∧ g < W.heap.size := by
 have hz : ((es.zip pvs).map fun p => zaq p.1.uid p.2 recC)[i]? = some (zaq e.uid pv recC) := by
  rw [List.getElem?_map, (List.getElem?_zip_eq_some (z := (e, pv))).2 ⟨he, hp⟩]; rfl
 have hc : (zbr es pvs)[i * 11 + 2]? = some pv := flatten_at (chainCells_rows es pvs) hz rfl
 have hi := (List.getElem?_eq_some_iff.1 he).1
 obtain ⟨hx, hv⟩ := hrow
 rcases hv with ⟨hv, _⟩ | ⟨g', cap', cur, hv, hg, hh, hnc, hcm, hcur, htake⟩
 ·cases hv
 ·injection hv with e1 _ e3
  injection e1 with e1
  injection e1 with e1 _
  subst e1 e3
  refine ⟨?_, frozen_of_row _ _ _ _ _ hh, zad hh⟩
  rw [cell_of_row _ _ _ _ _ _ hh]
  rw [← htake, List.getElem?_take] at hc
  split at hc
  ·simpa using hc
  ·cases hc
theorem Chain.cell {base g n cap : Nat} {W : World} {es : List Ent} {pvs : List Value} (h : Chain base W (.slice (some ⟨g, 0, none⟩) n cap) es pvs) {i : Nat} {e : Ent} {pv : Value} (he : es[i]? = some e) (hp : pvs[i]? = some pv) : W.cell? ⟨g, i * 11 + 2, none⟩ = some pv ∧ W.frozen? ⟨g, i * 11 + 2, none⟩ = false ∧ g < W.heap.size :=
 row_cell h.row he hp
theorem CellsAt.take {w : World} {b o : Nat} {xs : List Value} (h : CellsAt w b o xs) (n : Nat) : CellsAt w b o (xs.take n) := fun i u hi => by
 rw [List.getElem?_take] at hi
 split at hi
 ·exact h i u hi
 ·cases hi
end Go.Proofs.YtbkaffhbhimglaaGreat

/-
  A part of one row behind another row of the call's own. No function of the program. The conditions: none (definitions and lemmas).
-/
namespace Go.Proofs.YtbkaffhbhimglaaGreat
open Go.RowKit
section
variable {α : Type} {R : Rep α} {T : TypeId} {base : Nat} {W W' : World} {v v' : Value} {l : List α}
theorem OwnL.push_all {ys : List α} {xs cs : List Value} (hf : R.Flat (fun b => b < W.heap.size ∧ v.ownBlock ≠ some b) W l xs) (hx : R.Flat (fun b => b < W.heap.size ∧ v.ownBlock ≠ some b) W ys cs) (hg : GrownBy W W' v.ownBlock)
  (ho : W'.ownsRow base T R.size v' (l.length + ys.length) (xs ++ cs)) (hv : v'.ownBlock = v.ownBlock ∨ v'.ownBlock = some W.heap.size) : OwnL R T base W' v' (l ++ ys) := by
 have hal : Alike (fun b => b < W.heap.size ∧ v.ownBlock ≠ some b) W W' := fun b hb => hg.block b hb.1 fun e => hb.2 e.symm
 refine ⟨xs ++ cs, by simpa using ho, ?_⟩
 refine Rep.Flat.mono (S := fun b => b < W.heap.size ∧ v.ownBlock ≠ some b) (fun b hb => ⟨Nat.lt_of_lt_of_le hb.1 hg.size, fun e => ?_⟩) (Rep.Flat.append (Rep.Flat.alike hal hf) (Rep.Flat.alike hal hx))
 rcases hv with hv | hv
 ·exact hb.2 (hv ▸ e)
 ·rw [hv] at e; injection e with e; have := hb.1; omega
theorem OwnL.src {A : Option Addr} {n cap : Nat} (h : OwnL R T base W (.slice A n cap) l) : ∃ xs, R.Flat (fun b => b < W.heap.size) W l xs ∧ n = l.length ∧ n ≤ cap ∧ cap ≤ maxLen ∧ SrcAt W A n xs ∧ ∀ b o, A = some ⟨b, o, none⟩ → b < W.heap.size := by
 obtain ⟨xs, h1, h2⟩ := h
 have hn : n = l.length := by
  obtain ⟨A', c', e⟩ := zax h1
  injection e
 subst hn
 refine ⟨xs, h2.mono fun b hb => hb.1, rfl, ?_⟩
 rcases Nat.eq_zero_or_pos l.length with h0 | h0
 ·obtain ⟨hx, hv⟩ := h1
  rcases hv with ⟨hv, _⟩ | ⟨g, cap', cur, hv, hg, hh, hnc, hcm, _⟩
  ·injection hv with e1 e2 e3
   subst e1 e3
   exact ⟨by omega, by simp, fun h => by omega, fun b o e => by cases e⟩
  ·injection hv with e1 e2 e3
   subst e1 e3
   exact ⟨by omega, hcm, fun h => by omega, fun b o e => by injection e with e; injection e with e; subst e; exact zad hh⟩
 ·obtain ⟨g, cap', hv, hg, hnc, hcm, hc⟩ := own_cells h1 h0
  have hlt := (h1.lt g (by rw [hv]; rfl)).2
  injection hv with e1 e2 e3
  subst e1 e3
  exact ⟨hnc, hcm, fun _ => ⟨g, 0, rfl, hc⟩, fun b o e => by injection e with e; injection e with e; subst e; exact hlt⟩
theorem SrcAt.ext {A : Option Addr} {n : Nat} {xs : List Value} (h : SrcAt W A n xs) (hA : ∀ b o, A = some ⟨b, o, none⟩ → b < W.heap.size) (k : Ext W W') : SrcAt W' A n xs := fun h0 => by
 obtain ⟨b, o, e, hc⟩ := h h0
 exact ⟨b, o, e, hc.alike (S := fun b => b < W.heap.size) (hA b o e) (Alike.of_ext k fun _ h => h)⟩
theorem SrcAt.to {A : Option Addr} {n p sz : Nat} {xs : List Value} (h : SrcAt W A n xs) (hp : p ≤ n) : SrcAt W A p (xs.take (p * sz)) := fun h0 => by
 obtain ⟨b, o, e, hc⟩ := h (by omega)
 exact ⟨b, o, e, fun j v hj => hc j v (by rw [List.getElem?_take] at hj; split at hj; exact hj; cases hj)⟩
theorem SrcAt.off {A A2 : Option Addr} {n p sz cap : Nat} {xs : List Value} (h : SrcAt W A n xs) (hcap : n ≤ cap) (hA : CutOf A A2 n cap p sz) : SrcAt W A2 (n - p) (xs.drop (p * sz)) := fun h0 => by
 obtain ⟨b, o, e, hc⟩ := h (by omega)
 exact ⟨b, o + p * sz, hA b o hcap (by omega) e, hc.part fun j v hj => by rw [List.getElem?_drop] at hj; exact hj⟩
end
theorem zb3 {α : Type} {P : Program} {ops : Array Oper} {rest : List Oper} {o : Oper} {a : Act} {Q : Exit → Act → World → Prop} {w : World} (hgd : o.guard = none) (s x : Operand) (t : TypeId)
  (ho : o.op = .call { callee := .builtin .append, args := #[s, x], argTypes := #[t, t] }) (R : Rep α) (base : Nat) (e : TypeId) (i : TypeInfo) (z : Value) (bytes : Nat) (ht : P.underlying t = some (.slice e)) (hi : P.info? e = some i) (hz : i.zero = some z)
  (hsize : i.size = R.size) (hby : i.bytes = bytes) (hzs : z.cells.size = R.size) (v : Value) (l ys : List α) (A : Option Addr) (m c : Nat) (cs : List Value) (hs : a.eval s = v) (hx : a.eval x = .slice A m c)
  (hown : OwnL R e base w v l) (hsrc : SrcAt w A m cs) (hm : ys.length = m) (hy : R.Flat (fun b => b < w.heap.size ∧ v.ownBlock ≠ some b) w ys cs) (h63 : l.length + m ≤ maxLen) (hbytes : (l.length + m) * bytes ≤ 140737488355328) (hbase : base ≤ w.heap.size)
  (h : ∀ v' w', OwnL R e base w' v' (l ++ ys) → GrownBy w w' v.ownBlock → wpList P ops Q rest (a.put o.dst v') w') : wpList P ops Q (o :: rest) a w := by
 obtain ⟨xs, h1, h2⟩ := hown
 refine za9 hgd s x t ho base e i z R.size bytes ht hi hz hsize hby hzs R.pos v l.length xs hs h1 A m c cs hx (by rw [hy.length, hm]) hsrc hy.one h63 hbytes hbase fun v' w' ho' hg' hb' => ?_
 exact h v' w' (OwnL.push_all h2 hy hg' (by rw [hm]; exact ho') hb') hg'
end Go.Proofs.YtbkaffhbhimglaaGreat

/-
  The reference's entities as they must be. The conditions: the entities lie in memory as they should, are few and small enough.
-/
namespace Go.Proofs.YtbkaffhbhimglaaGreat
open Go.RowKit
open Lib renaming hid → q_
set_option maxRecDepth 100000
set_option maxHeartbeats 4000000
def EntsRes (l : List Ent) (er : Int) (w : World) (e : Ending) (w' : World) : Prop := ∃ v, e = .returned (.tuple #[v, .int .i64 er]) ∧ entR.RowsAt (fun b => b < w'.heap.size) w' l v ∧ Ext w w'
theorem EntsRes.none {er : Int} {w w' : World} (h : Ext w w') : EntsRes [] er w (.returned (.tuple #[.slice none 0 0, .int .i64 er])) w' := ⟨_, rfl, Rep.RowsAt.nil _ _, h⟩
section
variable {l : List Ent}
theorem canonE_twice (h20 : l.length ≤ 4096) (h : ¬ (l.map Ent.uid).Nodup) : zar l = ([], 13) := by
 unfold zar; rw [if_neg (by omega), if_pos h]
theorem canonE_err (h20 : l.length ≤ 4096) (hn : (l.map Ent.uid).Nodup) {c : Int} (hc : c ≠ 0) (h : zbp (l.map Ent.uid) l = ([], c)) : zar l = ([], c) := by
 unfold zar; rw [if_neg (by omega), if_neg (fun k => k hn), h, if_pos hc]
theorem canonE_round (h20 : l.length ≤ 4096) (hn : (l.map Ent.uid).Nodup) {ys : List Ent} (h : zbp (l.map Ent.uid) l = (ys, 0)) (hr : Rounded l) : zar l = ([], 21) := by
 unfold zar; rw [if_neg (by omega), if_neg (fun k => k hn), h, if_neg (by simp), if_pos hr]
theorem canonE_told (h20 : l.length ≤ 4096) (hn : (l.map Ent.uid).Nodup) {ys : List Ent} (h : zbp (l.map Ent.uid) l = (ys, 0)) (hr : ¬ Rounded l) : zar l = (sortU cmpE ys, 0) := by
 unfold zar; rw [if_neg (by omega), if_neg (fun k => k hn), h, if_neg (by simp), if_neg hr]
theorem new_name (hn : (l.map Ent.uid).Nodup) {i : Nat} {x y : Ent} {ys : List Ent} (hx : l[i]? = some x) (hu : y.uid = x.uid) (h : zbp (l.map Ent.uid) (l.take i) = (ys, 0)) : y.uid ∉ (sortU cmpE ys).map Ent.uid := fun hm => by
 have h1 := sortE_uids hm
 have h2 := onesE_uids (us := l.map Ent.uid) (l := l.take i) (by rw [h])
 rw [h] at h2
 rw [h2, hu] at h1
 obtain ⟨z, hz, hzu⟩ := List.mem_map.1 h1
 obtain ⟨a, ha⟩ := List.mem_iff_getElem?.1 hz
 rw [List.getElem?_take] at ha
 split at ha
 ·rename_i hlt
  have e1 := za4 (u := x.uid) hn (i := a) (by rw [List.getElem?_map, ha]; simp [hzu])
  have e2 := za4 (u := x.uid) hn (i := i) (by rw [List.getElem?_map, hx]; rfl)
  rw [e1] at e2
  have := Option.some.inj e2
  omega
 ·cases ha
theorem ones_next {us : List Uid} {i : Nat} {x : Ent} {ys : List Ent} (hx : l[i]? = some x) (h : zbp us (l.take i) = (ys, 0)) (h0 : (oneE us x).2 = 0) : zbp us (l.take (i + 1)) = (ys ++ [(oneE us x).1], 0) := by
 obtain ⟨h1, h2⟩ := List.getElem?_eq_some_iff.1 hx
 rw [List.take_succ_eq_append_getElem h1, h2]
 exact onesE_snoc h0 h
theorem ones_stop {us : List Uid} {i : Nat} {x : Ent} {ys : List Ent} (hx : l[i]? = some x) (h : zbp us (l.take i) = (ys, 0)) (h0 : (oneE us x).2 ≠ 0) : zbp us l = ([], (oneE us x).2) := by
 obtain ⟨h1, h2⟩ := List.getElem?_eq_some_iff.1 hx
 have := onesE_bad (r := l.drop (i + 1)) h0 h
 rw [show x :: l.drop (i + 1) = l.drop i by rw [List.drop_eq_getElem_cons h1, h2], List.take_append_drop] at this
 exact this
theorem sort_len (ys : List Ent) : (sortU cmpE ys).length ≤ ys.length := zci ys
end
theorem Tryz.elemE : Tryz.prog.underlying 26 = some (.slice (Tryz.prog.elem 26)) := by kernel_rfl
theorem zeu : ∀ w, (Go.sizeOf (Tryz.prog.elem 26)).run Tryz.prog w = .ok 11 w := fun _ => by kernel_rfl
theorem canon5_ok (S : Nat → Prop) (l : List Ent) (v : Value) (w : World) (hS : ∀ b, S b → b < w.heap.size) (hl : entR.RowsAt S w l v) (h20 : l.length ≤ 1000) (hps : ∀ e ∈ l, e.ps.length ≤ 1000) (hdep : ∀ e ∈ l, e.av.dep ≤ 1000000) :
  Calls Tryz.prog 33 #[v] w (EntsRes (zar l).1 (zar l).2 w) := by
 have hl' := hl
 obtain ⟨A, cap, rfl, ⟨hl0, hl1, hl2⟩, hlr⟩ := hl
 clear hl0
 rw [zab] at hl2
 have HS := q_ hS
 have HL := q_ hlr
 have HL' := q_ hl'
 have HP := q_ hps
 have HD := q_ hdep
 clear hS hlr hl' hps hdep
 obtain ⟨i0, hi0, hz0, hz1, hz2⟩ := info_parts zdr
 go_enter Tryz.func33, Tryz.ntmps33
 go_wp2_with fail
 go_loopw [4] (fun i' wr => ∃ i : Nat, i ≤ l.length ∧ i' = .int .i64 i ∧ Hid (∀ (a : Nat) (u : Uid), a < i → (l.map Ent.uid)[a]? = some u → idx (l.map Ent.uid) u = some a) ∧ Hid (Ext w wr)) (fun i' _ => l.length - (intOf i').toNat)
 case atStart => exact ⟨0, Nat.zero_le _, rfl, q_ fun _ _ h => by omega, q_ (Ext.refl _)⟩
 case round =>
  obtain ⟨i, hi, rfl, HA, HX⟩ := hrel
  by_cases hlt : i < l.length
  ·obtain ⟨b, o, rfl, hSb, hrow⟩ := HL.out (by omega)
   obtain ⟨x, hx⟩ : ∃ x, l[i]? = some x := ⟨_, List.getElem?_eq_getElem hlt⟩
   obtain ⟨cs, hca, hxa⟩ := hrow i x hx
   obtain ⟨k0, k1, _⟩ := zcp hca hxa
   have c0 : wr.cell? ⟨b, o + i * 11, none⟩ = some (.string x.uid.1) := HX.out.cell k0
   have c1 : wr.cell? ⟨b, o + i * 11 + 1, none⟩ = some (.string x.uid.2) := HX.out.cell k1
   have hxu : (l.map Ent.uid)[i]? = some x.uid := by rw [List.getElem?_map, hx]; rfl
   obtain ⟨j, hj⟩ := idx_mem.1 (List.mem_of_getElem? hxu)
   have Hxu := q_ hxu
   have Hj := q_ hj
   have Hlt := q_ hlt
   have hjl := idx_lt hj
   rw [List.length_map] at hjl
   clear hx hca hxa hrow k0 k1 hxu hj
   go_wp2_with fail
   refine (find5_ok S l _ x.uid wr (fun b hb => Nat.lt_of_lt_of_le (HS.out b hb) HX.out.size) (HL'.out.alike (Alike.of_ext HX.out HS.out))).mono ?_
   rintro e w3 ⟨rfl, hx3⟩
   rw [zdg Hj.out]
   have HX3 := q_ (HX.out.trans hx3)
   clear hx3 c0 c1
   by_cases hji : j = i
   ·subst hji
    go_wp2_with fail
    go_roundw
    case rel => exact ⟨j + 1, by have := Hlt.out; omega, by go_num, q_ fun a u ha hu => by
     by_cases he : a = j
     ·subst he; rw [Hxu.out] at hu; cases hu; exact Hj.out
     ·exact HA.out a u (by omega) hu, HX3⟩
    case measure => have := Hlt.out; simp [intOf]; omega
   ·have e1 : ((j : Int) != (i : Int)) = true := by simp; omega
    have HNot := q_ (canonE_twice (l := l) (by omega) fun hn => hji (by
     have h := za4 hn Hxu.out
     rw [Hj.out] at h
     exact Option.some.inj h))
    clear hji
    go_wp2_with fail
    go_ret2
    rw [HNot.out]
    exact EntsRes.none HX3.out
  ·have HN : Hid ((l.map Ent.uid).Nodup) := q_ (nodup_idx fun a u hu => HA.out a u (by have := (List.getElem?_eq_some_iff.1 hu).1; rw [List.length_map] at this; omega) hu)
   clear HA
   go_wp2_with fail
   clear hlt
   obtain ⟨wo, hwo⟩ : ∃ wo : World, wo = wr := ⟨_, rfl⟩
   subst hwo
   go_loopw [5, 6] (fun out i' wr => ∃ (i : Nat) (ys : List Ent), i ≤ l.length ∧ i' = .int .i64 i ∧ Hid (zbp (l.map Ent.uid) (l.take i) = (ys, 0)) ∧ ys.length ≤ i ∧ Hid (OwnL entR 49 w.heap.size wr out (sortU cmpE ys)) ∧ Hid (Ext w wr)) (fun _ i' _ => l.length - (intOf i').toNat)
   case atStart => exact ⟨0, [], Nat.zero_le _, rfl, q_ (by simp [zbp]), Nat.le_refl _, q_ OwnL.nil, HX⟩
   case round =>
    clear HX
    obtain ⟨i, ys, hi, rfl, HOnes, hys, HO, HX⟩ := hrel
    have hsl := sort_len ys
    by_cases hlt : i < l.length
    ·obtain ⟨b, o, rfl, hSb, hrow⟩ := HL.out (by omega)
     obtain ⟨x, hx⟩ : ∃ x, l[i]? = some x := ⟨_, List.getElem?_eq_getElem hlt⟩
     obtain ⟨cs, hca, hxa⟩ := hrow i x hx
     have Hcl := q_ (show cs.length = 11 from entR.len hxa)
     have Hca := q_ (show CellsAt wr b (o + i * 11) cs from hca.alike hSb (Alike.of_ext HX.out HS.out))
     have Hxa := q_ (entR.alike hxa (Alike.of_ext HX.out HS.out))
     have Hx := q_ hx
     have Hlt := q_ hlt
     clear hx hca hxa hrow
     go_wp2_with (refine zac rfl 49 _ rfl b (o + i * 11) rfl za0 zau Hcl.out Hca.out ?_)
     refine (one5_ok S l x _ cs wr (fun b hb => Nat.lt_of_lt_of_le (HS.out b hb) HX.out.size) (HL'.out.alike (Alike.of_ext HX.out HS.out)) Hxa.out (HD.out x (List.mem_of_getElem? Hx.out)) (HP.out x (List.mem_of_getElem? Hx.out))).mono ?_
     rintro e w4 ⟨y, csy, rfl, hya, hy0, hx4⟩
     obtain ⟨Y1, yl1, yc1, yk, yb, yn, yt, yut, yui, Y2, yl2, yc2, Y3, yl3, yc3, rfl⟩ := zdj hya
     have HX4 := q_ (HX.out.trans hx4)
     have HX4r := q_ hx4
     by_cases hone : (oneE (l.map Ent.uid) x).2 = 0
     ·have t7 : ((oneE (l.map Ent.uid) x).2 != 0) = false := by simpa using hone
      have Hone := q_ hone
      have Hy0 := q_ (hy0 hone)
      have HYa4 := q_ hya
      clear hone hy0 hya hx4
      go_wp2_with fail
      obtain ⟨w5, hw5⟩ : ∃ w5, w5 = w4.alloc (.cells [.string y.uid.1, .string y.uid.2, .slice Y1 yl1 yc1, .int .i64 yk, .bool yb, .int .i64 yn, .string yt, .string yut, .string yui, .slice Y2 yl2 yc2, .slice Y3 yl3 yc3].toArray 49) := ⟨_, rfl⟩
      change Code.wp _ _ _ _ (w4.alloc (.cells [.string y.uid.1, .string y.uid.2, .slice Y1 yl1 yc1, .int .i64 yk, .bool yb, .int .i64 yn, .string yt, .string yut, .string yui, .slice Y2 yl2 yc2, .slice Y3 yl3 yc3].toArray 49))
      rw [← hw5]
      have x45 : Ext w4 w5 := by rw [hw5]; exact (Ext.refl w4).alloc _
      have HB7 : Hid (w5.heap[w4.heap.size]? = some (.cells [.string y.uid.1, .string y.uid.2, .slice Y1 yl1 yc1, .int .i64 yk, .bool yb, .int .i64 yn, .string yt, .string yut, .string yui, .slice Y2 yl2 yc2, .slice Y3 yl3 yc3].toArray 49 (0, 0))) := q_ (by rw [hw5]; exact heap_alloc_new _ _)
      have HXw5 := q_ (HX4.out.trans x45)
      have HSlt := q_ (HX4r.out.trans x45)
      have HYa : Hid (entR.At (fun b => b < w5.heap.size) w5 y [.string y.uid.1, .string y.uid.2, .slice Y1 yl1 yc1, .int .i64 yk, .bool yb, .int .i64 yn, .string yt, .string yut, .string yui, .slice Y2 yl2 yc2, .slice Y3 yl3 yc3]) := q_ (entR.mono (entR.alike HYa4.out (Alike.of_ext x45 fun b hb => hb.2)) fun b hb => Nat.lt_of_lt_of_le hb.2 x45.size)
      have HNew0 := q_ (new_name (y := y) HN.out Hx.out (by rw [Hy0.out, oneE_uid]) HOnes.out)
      obtain ⟨zs, hzs⟩ : ∃ zs, zs = sortU cmpE ys := ⟨_, rfl⟩
      rw [← hzs] at HO HNew0 hsl
      have HNew := HNew0
      have HZs := q_ hzs
      obtain ⟨Ao, co, eo⟩ := HO.out.shape
      subst eo
      obtain ⟨xo, hfo, _, hco, hcm, hsrc, hao⟩ := (HO.out.ext HSlt.out).src
      rw [zab] at hcm
      have HFo := q_ hfo
      have HSrc := q_ hsrc
      have HAo := q_ hao
      have HFy : Hid (FitU y.uid) := q_ (by obtain ⟨_, _, _, h, _⟩ := HYa.out; exact h)
      clear hw5 x45 hfo hsrc hao hzs HNew0 HO
      go_loopw [10] (fun p' wr => ∃ p : Nat, p ≤ zs.length ∧ p' = .int .i64 p ∧ Hid (∀ (a : Nat) (z : Ent), a < p → zs[a]? = some z → cmpE z y = -1) ∧ Hid (Ext w5 wr)) (fun p' _ => zs.length - (intOf p').toNat)
      case atStart => exact ⟨0, Nat.zero_le _, rfl, q_ fun _ _ h => by omega, q_ (Ext.refl _)⟩
      case round =>
       obtain ⟨p, hp, rfl, HLess, HXp⟩ := hrel
       by_cases hpt : p < zs.length
       ·obtain ⟨z, hz⟩ : ∃ z, zs[p]? = some z := ⟨_, List.getElem?_eq_getElem hpt⟩
        obtain ⟨bz, oz, hA, hcz⟩ := HSrc.out (by omega)
        subst hA
        obtain ⟨csz, hzat, hzc⟩ := HFo.out.get hz
        obtain ⟨pvz, acz, rfl, hfz, _⟩ := hzat
        have b0 := cell_of_row _ _ 0 _ _ _ ((HXp.out.block _ (zad HB7.out)).trans HB7.out)
        have b1 := cell_of_row _ _ 1 _ _ _ ((HXp.out.block _ (zad HB7.out)).trans HB7.out)
        simp at b0 b1
        have r0 := zaa (show wr.cell? ⟨bz, oz + p * 11, none⟩ = some (.string z.uid.1) from HXp.out.cell (hcz _ _ (hzc 0 _ rfl)))
        have r1 := zaa (show wr.cell? ⟨bz, oz + p * 11 + 1, none⟩ = some (.string z.uid.2) from HXp.out.cell (hcz _ _ (hzc 1 _ rfl)))
        have r2 := zaa b0
        have r3 := zaa b1
        have HFz := q_ hfz
        have Hz := q_ hz
        clear hz hcz hzc hfz b0 b1
        have hrg := (GoodAt.ordU z.uid).range y.uid
        by_cases hcmp : ordU z.uid y.uid < 0
        ·have hd : decide (ordU z.uid y.uid < 0) = true := decide_eq_true hcmp
         have HCmp := q_ (show cmpE z y = -1 by unfold cmpE; omega)
         clear hrg
         go_wp2_with fail
         refine zae (by kernel_rfl) (by kernel_rfl) ?_
         repeat (go_big_quiet_step ((go_at_call 66; exact zan (fun w1 hw1 => order5_ok z.uid y.uid w1 HFz.out HFy.out) _ _)))
         refine wpQuiet_nil ?_
         intro w6 hw6
         have HX6 := q_ (HXp.out.trans hw6)
         clear hw6 r0 r1 r2 r3 hd hcmp
         go_wp2_with fail
         go_roundw
         case rel => exact ⟨p + 1, by omega, by go_num, q_ fun a u ha hu => by
          by_cases he : a = p
          ·subst he; rw [Hz.out] at hu; cases hu; exact HCmp.out
          ·exact HLess.out a u (by omega) hu, HX6⟩
         case measure => simp [intOf]; omega
        ·have hd : decide (ordU z.uid y.uid < 0) = false := decide_eq_false hcmp
         have HStop : Hid (∀ u : Ent, zs[p]? = some u → ¬ cmpE u y = -1) := q_ fun u hu => by rw [Hz.out] at hu; cases hu; unfold cmpE; omega
         clear hrg
         go_wp2_with fail
         refine zae (by kernel_rfl) (by kernel_rfl) ?_
         repeat (go_big_quiet_step ((go_at_call 66; exact zan (fun w1 hw1 => order5_ok z.uid y.uid w1 HFz.out HFy.out) _ _)))
         refine wpQuiet_nil ?_
         intro w6 hw6
         have HX6 := q_ (HXp.out.trans hw6)
         clear hw6 r0 r1 r2 r3 hd hcmp
         obtain ⟨Ao, hAo⟩ : ∃ Ao : Option Addr, Ao = some ⟨bz, oz, none⟩ := ⟨_, rfl⟩
         rw [← hAo] at HSrc HAo ⊢
         clear hAo
         have hcs := HFo.out.alike (Alike.of_ext HX6.out fun b hb => hb)
         have HF1 := q_ (hcs.take_drop p)
         have HS1 := q_ ((HSrc.out.ext HAo.out HX6.out).to (sz := 11) hp)
         have HS2 := q_ (HSrc.out.ext HAo.out HX6.out)
         have Hlt1 := q_ (show (zs.take p).length = p by rw [List.length_take]; omega)
         have Hld := q_ (show (zs.drop p).length = zs.length - p by rw [List.length_drop])
         have Hb7 := q_ ((HX6.out.block _ (zad HB7.out)).trans HB7.out)
         have hw5 := HX6.out.size
         clear hcs
         go_wp2_with (first | refine zcl rfl 26 (.tmp 66) (.tmp 67) rfl 11 Tryz.elemE zeu Ao zs.length co p rfl rfl (by omega) ?_ | (at_builtin; refine zb3 rfl (.tmp 65) (.tmp 68) 26 rfl entR w5.heap.size 49 i0 _ 176 Tryz.underlying26 hi0 hz0 hz1 hz2 rfl (.slice none 0 0) [] (zs.take p) Ao p co (xo.take (p * 11)) rfl rfl OwnL.nil HS1.out Hlt1.out (HF1.out.1.mono fun b hb => ⟨Nat.lt_of_lt_of_le hb hw5, fun e => by cases e⟩) (by rw [zab]; simp; omega) (by simp; omega) hw5 ?_))
         intro m1 x1 hm1 hg1
         have HM1 := q_ hm1
         have HX1 := q_ (zas (Ext.refl w6) hg1 fun b e => by cases e)
         clear hm1 hg1
         have Hb71 := q_ ((HX1.out.block _ (zad Hb7.out)).trans Hb7.out)
         have hx51 := HX6.out.trans HX1.out
         have HX51 := q_ hx51
         have hw51 := hx51.size
         clear hx51
         go_wp2_with (first | refine zac rfl 49 _ rfl w4.heap.size 0 rfl za0 zau rfl (zat Hb71.out) ?_ | (at_builtin; refine zbh rfl (.tmp 70) (.tmp 72) 26 rfl entR w5.heap.size 49 i0 _ 176 Tryz.underlying26 hi0 hz0 hz1 hz2 rfl m1 (zs.take p) x1 49 y [.string y.uid.1, .string y.uid.2, .slice Y1 yl1 yc1, .int .i64 yk, .bool yb, .int .i64 yn, .string yt, .string yut, .string yui, .slice Y2 yl2 yc2, .slice Y3 yl3 yc3] rfl rfl HM1.out ?qy (by rw [zab, Hlt1.out]; omega) (by rw [Hlt1.out]; omega) hw51 ?_))
         case qy => exact entR.mono (entR.alike HYa.out (Alike.of_ext HX51.out fun b hb => hb)) fun b hb => ⟨Nat.lt_of_lt_of_le hb hw51, fun e => by have := (HM1.out.lt b e).1; omega⟩
         intro m2 x2 hm2 hg2
         have HM2 := q_ hm2
         have HX52 := q_ (zas HX51.out hg2 fun b e => (HM1.out.lt b e).1)
         have Hg2 := q_ hg2
         clear hm2 hg2
         have hw52 := HX52.out.size
         go_wp2_with (refine zb2 rfl 26 (.tmp 75) (.tmp 76) rfl 11 Tryz.elemE zeu Ao zs.length co p rfl rfl (by omega) ?_)
         intro A2 hA2
         have HS3 := q_ ((HSrc.out.ext HAo.out HX52.out).off hco hA2)
         have HF3 := q_ (HFo.out.alike (Alike.of_ext HX52.out fun b hb => hb) |>.take_drop p)
         have Hl2 := q_ (show (zs.take p ++ [y]).length = p + 1 by simp; omega)
         clear hA2
         go_wp2_with (at_builtin; go_loud (refine zb3 rfl (.tmp 74) (.tmp 77) 26 rfl entR w5.heap.size 49 i0 _ 176 Tryz.underlying26 hi0 hz0 hz1 hz2 rfl m2 (zs.take p ++ [y]) (zs.drop p) A2 (zs.length - p) (co - p) (xo.drop (p * 11)) rfl rfl HM2.out HS3.out Hld.out (HF3.out.2.mono fun b hb => ⟨Nat.lt_of_lt_of_le hb hw52, fun e => by have := (HM2.out.lt b e).1; omega⟩) (by rw [zab]; rw [Hl2.out]; omega) (by rw [Hl2.out]; omega) hw52 ?_))
         intro m3 x3 hm3 hg3
         have HX53 := q_ (zas HX52.out hg3 fun b e => (HM2.out.lt b e).1)
         have hins : sortU cmpE (ys ++ [y]) = zs.take p ++ y :: zs.drop p := by
          rw [sortU_snoc, ← HZs.out]
          exact ins_here (by rw [HZs.out]; exact za3 GoodAt.cmpE _) hp HLess.out HStop.out HNew.out
         rw [← hins] at hm3
         have HM3 := q_ (hm3.low (Nat.le_trans HXw5.out.size (Nat.le_refl _)))
         have HOn := q_ (ones_next Hx.out HOnes.out Hone.out)
         clear hm3 hg3 hins
         rw [← Hy0.out] at HOn
         go_wp2_with fail
         go_roundw
         case rel => exact ⟨i + 1, ys ++ [y], by have := Hlt.out; omega, by go_num, HOn, by simp; omega, HM3, q_ (HXw5.out.trans HX53.out)⟩
         case measure => have := Hlt.out; simp [intOf]; omega
       ·have hpe : p = zs.length := by omega
        have HStop : Hid (∀ u : Ent, zs[p]? = some u → ¬ cmpE u y = -1) := q_ fun u hu => by have := (List.getElem?_eq_some_iff.1 hu).1; omega
        clear hpe
        go_wp2_with fail
        refine zae (by kernel_rfl) (by kernel_rfl) ?_
        repeat (go_big_quiet_step (fail))
        refine wpQuiet_nil ?_
        intro w6 hw6
        have HX6 := q_ (HXp.out.trans hw6)
        clear hw6
        have hcs := HFo.out.alike (Alike.of_ext HX6.out fun b hb => hb)
        have HF1 := q_ (hcs.take_drop p)
        have HS1 := q_ ((HSrc.out.ext HAo.out HX6.out).to (sz := 11) hp)
        have HS2 := q_ (HSrc.out.ext HAo.out HX6.out)
        have Hlt1 := q_ (show (zs.take p).length = p by rw [List.length_take]; omega)
        have Hld := q_ (show (zs.drop p).length = zs.length - p by rw [List.length_drop])
        have Hb7 := q_ ((HX6.out.block _ (zad HB7.out)).trans HB7.out)
        have hw5 := HX6.out.size
        clear hcs
        go_wp2_with (first | refine zcl rfl 26 (.tmp 66) (.tmp 67) rfl 11 Tryz.elemE zeu Ao zs.length co p rfl rfl (by omega) ?_ | (at_builtin; refine zb3 rfl (.tmp 65) (.tmp 68) 26 rfl entR w5.heap.size 49 i0 _ 176 Tryz.underlying26 hi0 hz0 hz1 hz2 rfl (.slice none 0 0) [] (zs.take p) Ao p co (xo.take (p * 11)) rfl rfl OwnL.nil HS1.out Hlt1.out (HF1.out.1.mono fun b hb => ⟨Nat.lt_of_lt_of_le hb hw5, fun e => by cases e⟩) (by rw [zab]; simp; omega) (by simp; omega) hw5 ?_))
        intro m1 x1 hm1 hg1
        have HM1 := q_ hm1
        have HX1 := q_ (zas (Ext.refl w6) hg1 fun b e => by cases e)
        clear hm1 hg1
        have Hb71 := q_ ((HX1.out.block _ (zad Hb7.out)).trans Hb7.out)
        have hx51 := HX6.out.trans HX1.out
        have HX51 := q_ hx51
        have hw51 := hx51.size
        clear hx51
        go_wp2_with (first | refine zac rfl 49 _ rfl w4.heap.size 0 rfl za0 zau rfl (zat Hb71.out) ?_ | (at_builtin; refine zbh rfl (.tmp 70) (.tmp 72) 26 rfl entR w5.heap.size 49 i0 _ 176 Tryz.underlying26 hi0 hz0 hz1 hz2 rfl m1 (zs.take p) x1 49 y [.string y.uid.1, .string y.uid.2, .slice Y1 yl1 yc1, .int .i64 yk, .bool yb, .int .i64 yn, .string yt, .string yut, .string yui, .slice Y2 yl2 yc2, .slice Y3 yl3 yc3] rfl rfl HM1.out ?qy (by rw [zab, Hlt1.out]; omega) (by rw [Hlt1.out]; omega) hw51 ?_))
        case qy => exact entR.mono (entR.alike HYa.out (Alike.of_ext HX51.out fun b hb => hb)) fun b hb => ⟨Nat.lt_of_lt_of_le hb hw51, fun e => by have := (HM1.out.lt b e).1; omega⟩
        intro m2 x2 hm2 hg2
        have HM2 := q_ hm2
        have HX52 := q_ (zas HX51.out hg2 fun b e => (HM1.out.lt b e).1)
        have Hg2 := q_ hg2
        clear hm2 hg2
        have hw52 := HX52.out.size
        go_wp2_with (refine zb2 rfl 26 (.tmp 75) (.tmp 76) rfl 11 Tryz.elemE zeu Ao zs.length co p rfl rfl (by omega) ?_)
        intro A2 hA2
        have HS3 := q_ ((HSrc.out.ext HAo.out HX52.out).off hco hA2)
        have HF3 := q_ (HFo.out.alike (Alike.of_ext HX52.out fun b hb => hb) |>.take_drop p)
        have Hl2 := q_ (show (zs.take p ++ [y]).length = p + 1 by simp; omega)
        clear hA2
        go_wp2_with (at_builtin; go_loud (refine zb3 rfl (.tmp 74) (.tmp 77) 26 rfl entR w5.heap.size 49 i0 _ 176 Tryz.underlying26 hi0 hz0 hz1 hz2 rfl m2 (zs.take p ++ [y]) (zs.drop p) A2 (zs.length - p) (co - p) (xo.drop (p * 11)) rfl rfl HM2.out HS3.out Hld.out (HF3.out.2.mono fun b hb => ⟨Nat.lt_of_lt_of_le hb hw52, fun e => by have := (HM2.out.lt b e).1; omega⟩) (by rw [zab]; rw [Hl2.out]; omega) (by rw [Hl2.out]; omega) hw52 ?_))
        intro m3 x3 hm3 hg3
        have HX53 := q_ (zas HX52.out hg3 fun b e => (HM2.out.lt b e).1)
        have hins : sortU cmpE (ys ++ [y]) = zs.take p ++ y :: zs.drop p := by
         rw [sortU_snoc, ← HZs.out]
         exact ins_here (by rw [HZs.out]; exact za3 GoodAt.cmpE _) hp HLess.out HStop.out HNew.out
        rw [← hins] at hm3
        have HM3 := q_ (hm3.low (Nat.le_trans HXw5.out.size (Nat.le_refl _)))
        have HOn := q_ (ones_next Hx.out HOnes.out Hone.out)
        clear hm3 hg3 hins
        rw [← Hy0.out] at HOn
        go_wp2_with fail
        go_roundw
        case rel => exact ⟨i + 1, ys ++ [y], by have := Hlt.out; omega, by go_num, HOn, by simp; omega, HM3, q_ (HXw5.out.trans HX53.out)⟩
        case measure => have := Hlt.out; simp [intOf]; omega
     ·have t7 : ((oneE (l.map Ent.uid) x).2 != 0) = true := by simpa using hone
      have HC := q_ (canonE_err (by omega) HN.out hone (ones_stop Hx.out HOnes.out hone))
      clear hone hy0 hya hx4
      go_wp2_with fail
      go_ret2
      rw [HC.out]
      exact EntsRes.none (HX4.out.alloc _)
    ·have HOl : Hid (zbp (l.map Ent.uid) l = (ys, 0)) := q_ (by have h := HOnes.out; rwa [List.take_of_length_le (by omega)] at h)
     go_wp2_with fail
     refine (round5_ok S l _ wr (fun b hb => Nat.lt_of_lt_of_le (HS.out b hb) HX.out.size) (HL'.out.alike (Alike.of_ext HX.out HS.out)) h20 HN.out).mono ?_
     rintro e w3 ⟨r, rfl, hr, hx3⟩
     have HX3 := q_ (HX.out.trans hx3)
     have HO3 := q_ (HO.out.ext hx3)
     cases r with
     | true =>
      have HC := q_ (canonE_round (by omega) HN.out HOl.out (hr.1 rfl))
      clear hr hx3
      go_wp2_with fail
      go_ret2
      rw [HC.out]
      exact EntsRes.none HX3.out
     | false =>
      have HC := q_ (canonE_told (by omega) HN.out HOl.out (fun h => nomatch hr.2 h))
      clear hr hx3
      go_wp2_with fail
      go_ret2
      rw [HC.out]
      exact ⟨_, rfl, HO3.out.rows (by rw [zak]; omega), HX3.out⟩
end Go.Proofs.YtbkaffhbhimglaaGreat
