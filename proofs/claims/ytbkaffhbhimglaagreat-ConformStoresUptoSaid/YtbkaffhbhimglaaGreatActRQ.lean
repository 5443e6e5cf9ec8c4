/-
  A schema's actions as entities: what the reference makes. The conditions: the schema lies in memory as it should.
-/
import Derived.Test.YtbkaffhbhimglaaGreatActsQ
import Derived.Test.YtbkaffhbhimglaaGreatStageTQ
import Derived.Test.YtbkaffhbhimglaaGreatReg14Q
namespace Go.Proofs.YtbkaffhbhimglaaGreat
open Go.RowKit
open Lib renaming hid → q_
set_option maxRecDepth 100000
set_option maxHeartbeats 4000000
def StgP (wr : World) (E : Value) (base : Nat) (us : List Uid) (u : Uid) : List Value → World → Prop
 | [], V => V = wr.drew
 | [s], V => s = .slice (some ⟨wr.heap.size, 0, none⟩) 1 1 ∧ V = wr.drew.alloc (.cells [.string u.1, .string u.2].toArray 43)
 | [_, r], V => OwnL uidR 43 base V r (us ++ [u]) ∧ GrownBy wr V E.ownBlock
 | _, _ => False
theorem StgP.grown {wr : World} {E : Value} {base : Nat} {us : List Uid} {u : Uid} {vs : List Value} {V : World} (h : StgP wr E base us u vs V) : GrownBy wr V E.ownBlock := by
 match vs, h with
 | [], h => subst h; exact .of_ext _ (zdu wr)
 | [_], h => rw [h.2]; exact .of_ext _ ((zdu wr).alloc _)
 | [_, _], h => exact h.2
theorem lst14 {α : Type} {l : List α} (h : l.length = 14) : ∃ x0 x1 x2 x3 x4 x5 x6 x7 x8 x9 x10 x11 x12 x13, l = [x0, x1, x2, x3, x4, x5, x6, x7, x8, x9, x10, x11, x12, x13] := by
 match l, h with
 | [x0, x1, x2, x3, x4, x5, x6, x7, x8, x9, x10, x11, x12, x13], _ => exact ⟨_, _, _, _, _, _, _, _, _, _, _, _, _, _, rfl⟩
theorem Tryz.fieldEp (g : Nat) : ∀ w, (Instr.fieldAt 49 (.pointer (some ⟨g, 0, none⟩)) 1).run Tryz.prog w = .ok (.pointer (some ⟨g, 2, none⟩)) w := by
 intro w; kernel_rfl
theorem Tryz.fieldSa (g : Nat) : ∀ w, (Instr.fieldAt 25 (.pointer (some ⟨g, 0, none⟩)) 1).run Tryz.prog w = .ok (.pointer (some ⟨g, 1, none⟩)) w := by
 intro w; kernel_rfl
theorem Tryz.fieldAi (b o : Nat) : ∀ w, (Instr.fieldAt 41 (.pointer (some ⟨b, o, none⟩)) 1).run Tryz.prog w = .ok (.pointer (some ⟨b, o + 1, none⟩)) w := by
 intro w; kernel_rfl
theorem Tryz.aggLU : ∀ w, (isAgg 47).run Tryz.prog w = .ok false w := fun _ => by kernel_rfl
theorem Tryz.aggLA : ∀ w, (isAgg 23).run Tryz.prog w = .ok false w := fun _ => by kernel_rfl
theorem Tryz.aggLS : ∀ w, (isAgg 36).run Tryz.prog w = .ok false w := fun _ => by kernel_rfl
theorem Tryz.elemLA : Tryz.prog.underlying 23 = some (.slice (Tryz.prog.elem 23)) := by kernel_rfl
theorem Tryz.elemLAs : ∀ w, (Go.sizeOf (Tryz.prog.elem 23)).run Tryz.prog w = .ok 5 w := fun _ => by kernel_rfl
theorem Tryz.elemLS : Tryz.prog.underlying 36 = some (.slice (Tryz.prog.elem 36)) := by kernel_rfl
theorem Tryz.elemLSs : ∀ w, (Go.sizeOf (Tryz.prog.elem 36)).run Tryz.prog w = .ok 1 w := fun _ => by kernel_rfl
theorem Tryz.aggSt : ∀ w, (isAgg 9).run Tryz.prog w = .ok false w := fun _ => by kernel_rfl
theorem Tryz.bldU (x y : ByteArray) (w : World) : (Instr.build 43 #[(0, .string x), (1, .string y)]).run Tryz.prog w = .ok (.agg #[.string x, .string y]) w := by
 kernel_rfl
theorem Tryz.buildU1 (v0 v1 : Value) : ∀ w, (Instr.buildSlice 47 1 #[(0, .agg #[v0, v1])]).run Tryz.prog w = .ok (.slice (some ⟨w.heap.size, 0, none⟩) 1 1) (w.alloc (.cells #[v0, v1] 43)) := by
 intro w; simp [Instr.buildSlice, go_sem]
theorem actionsR_ok (S : Nat → Prop) (s : Sch) (ss : List Value) (w : World) (hS : ∀ b, S b → b < w.heap.size) (hs : Sch.At S w s ss) :
  Calls Tryz.prog 12 #[.agg ss.toArray] w fun e w' => ∃ v, e = .returned v ∧ OwnL entR 49 w.heap.size w' v (zaz s.acts) ∧ Ext w w' := by
 obtain ⟨v1, v2, rfl, h1, h2⟩ := hs
 obtain ⟨A1, cap1, rfl, ⟨_, _, hm2⟩, _⟩ := h1
 obtain ⟨A2, cap2, rfl, ⟨hl0, hl1, hl2⟩, hlr⟩ := h2
 rw [zak] at hl0
 rw [zab] at hl2 hm2
 generalize s.acts = l at hl0 hl1 hlr ⊢
 generalize s.types.length = n1
 obtain ⟨i0, hi0, hz0, hz1, hz2⟩ := info_parts zdr
 obtain ⟨iu, hiu, uz0, uz1, uz2⟩ := info_parts zei
 have HL := q_ hlr
 have HS := q_ hS
 have HX0 := q_ ((Ext.refl w).alloc (.cells #[.slice A1 n1 cap1, .slice A2 l.length cap2] 25))
 have HB0 := q_ (heap_alloc_new w (.cells #[.slice A1 n1 cap1, .slice A2 l.length cap2] 25))
 clear hlr hS
 go_enter Tryz.func12, Tryz.ntmps12
 go_wp2_with fail
 go_loopw [3, 4] (fun v' i' wr => ∃ k : Nat, k ≤ l.length ∧ i' = .int .i64 k ∧ Hid (Ext w wr) ∧ Hid (wr.heap[w.heap.size]? = some (.cells #[.slice A1 n1 cap1, .slice A2 l.length cap2] 25 (0, 0))) ∧ Hid (OwnL entR 49 (w.heap.size + 1) wr v' ((zaz l).take k))) (fun _ i' _ => l.length - (intOf i').toNat)
 case atStart => exact ⟨0, Nat.zero_le _, rfl, HX0, HB0, q_ OwnL.nil⟩
 case round =>
  clear HX0 HB0
  obtain ⟨k, hk, rfl, HX, HBx, HO⟩ := hrel
  have cb : wr.cell? ⟨w.heap.size, 1, none⟩ = some (.slice A2 l.length cap2) := cell_of_row _ _ 1 _ _ _ HBx.out
  by_cases hlt : k < l.length
  ·obtain ⟨b, o, rfl, hSb, hrow⟩ := HL.out (by omega)
   obtain ⟨a, ha⟩ : ∃ a, l[k]? = some a := ⟨_, List.getElem?_eq_getElem hlt⟩
   obtain ⟨cs, hca, hat⟩ := hrow k a ha
   have hca : CellsAt w b (o + k * 5) cs := hca
   have hat' := hat
   obtain ⟨Aa, la, ca, Ba, lb, cb', Ca, lc, cc, Da, ld, cd, rfl⟩ := sac_shape hat
   obtain ⟨_, _, _, _, e, hid, hins, _⟩ := hat'
   cases e
   obtain ⟨_, _, e, hi0', hi1, hi2, his, hir⟩ := zds hins
   injection e with e1 e2 e3
   subst e1 e2 e3
   rw [zak] at hi0'
   rw [zab] at hi2
   have Hcw := q_ hca
   have c0 : wr.cell? ⟨b, o + k * 5, none⟩ = some (.string a.id) := HX.out.cell (hca 0 _ rfl)
   have HbS := q_ (HS.out _ hSb)
   have Ha := q_ ha
   have Hid' := q_ hid
   have His := q_ his
   have Hir := q_ hir
   obtain ⟨Av, cv, ev⟩ := HO.out.shape
   rw [List.length_take, Nat.min_eq_left (by simp [zaz]; omega)] at ev
   subst ev
   clear hrow hSb hca ha hat hins his hir hid
   go_wp2_with fail
   rename World => v1
   have Q1 := q_ (heap_alloc_new v1 (.cells #[.string tAct, .string a.id, .slice none 0 0, .int .i64 6, .bool false, .int .i64 0, .string ByteArray.empty, .string ByteArray.empty, .string ByteArray.empty, .slice none 0 0, .slice none 0 0] 49))
   have Qx := q_ ((Ext.refl v1).alloc (.cells #[.string tAct, .string a.id, .slice none 0 0, .int .i64 6, .bool false, .int .i64 0, .string ByteArray.empty, .string ByteArray.empty, .string ByteArray.empty, .slice none 0 0, .slice none 0 0] 49))
   clear cb c0
   go_loopw [6] (fun i' wr => ∃ j : Nat, j ≤ a.ins.length ∧ i' = .int .i64 j ∧ Hid (Ext v1 wr) ∧
    ∃ A c, Hid (wr.heap[v1.heap.size]? = some (.cells #[.string tAct, .string a.id, .slice A j c, .int .i64 6, .bool false, .int .i64 0, .string ByteArray.empty, .string ByteArray.empty, .string ByteArray.empty, .slice none 0 0, .slice none 0 0] 49 (0, 0))) ∧ Hid (OwnL uidR 43 (v1.heap.size + 1) wr (.slice A j c) ((upA a.ins).take j))) (fun i' _ => a.ins.length - (intOf i').toNat)
   case atStart => exact ⟨0, Nat.zero_le _, rfl, Qx, none, 0, Q1, q_ OwnL.nil⟩
   case round =>
    clear Q1 Qx
    obtain ⟨j, hj, rfl, HY, A, c, HB, HP⟩ := hrel
    have hbs : v1.heap.size + 1 ≤ wr.heap.size := zad HB.out
    have HXw := q_ (HX.out.trans HY.out)
    have cb : wr.cell? ⟨w.heap.size, 1, none⟩ = some (.slice (some ⟨b, o, none⟩) l.length cap2) := cell_of_row _ _ 1 _ _ _ ((HY.out.block _ (zad HBx.out)).trans HBx.out)
    have ci : wr.cell? ⟨b, o + k * 5 + 1, none⟩ = some (.slice Aa a.ins.length ca) := HXw.out.cell (Hcw.out 1 _ rfl)
    by_cases hjt : j < a.ins.length
    ·obtain ⟨p, hp⟩ : ∃ p, a.ins[j]? = some p := ⟨_, List.getElem?_eq_getElem hjt⟩
     obtain ⟨sb, so, eS, hSs, hsrow⟩ := Hir.out (by omega)
     subst eS
     have hsl := HS.out _ hSs
     have c0 : w.cell? ⟨sb, so + j * 1, none⟩ = some (.string p) := by have h := hsrow j (.string p) (by simp [hp]); rwa [← Nat.mul_one j] at h
     have c1 : w.cell? ⟨b, o + k * 5 + 1, none⟩ = some (.slice (some ⟨sb, so, none⟩) a.ins.length ca) := Hcw.out 1 _ rfl
     have hup : (upA a.ins)[j]? = some (tAct, p) := by simp [upA, hp]
     have hll : ((upA a.ins).take j).length = j := by rw [List.length_take]; simp [upA]; omega
     have Hfit : Hid (FitU (tAct, p)) := q_ ⟨tAct_fit, His.out p (List.mem_of_getElem? hp)⟩
     have Hup := q_ hup
     have Hll := q_ hll
     have Hbs := q_ hbs
     have Hc0 := q_ c0
     have Hc1 := q_ c1
     have Hsl := q_ hsl
     have Hlo := q_ (fun b hb => (HP.out.lt b hb).1)
     have Hv1 := q_ (show w.heap.size + 1 ≤ v1.heap.size from zad HBx.out)
     clear hp hsrow hSs hup hll hbs hsl c0 c1
     go_wp2_with fail
     refine staged_regionT 14 [12, 13] [.pointer (some ⟨v1.heap.size, 2, none⟩), .slice A j c, .pointer (some ⟨w.heap.size, 1, none⟩), .slice (some ⟨b, o, none⟩) l.length cap2, .int .i64 k, .pointer (some ⟨b, o + k * 5, none⟩), .pointer (some ⟨b, o + k * 5 + 1, none⟩), .slice (some ⟨sb, so, none⟩) a.ins.length ca, .int .i64 j, .pointer (some ⟨sb, so + j * 1, none⟩), .string p, .agg #[.string tAct, .string p], undef, undef] (StgP wr (.slice A j c) (v1.heap.size + 1) ((upA a.ins).take j) (tAct, p)) (by kernel_rfl) (by kernel_rfl) (by kernel_rfl) (by decide) (by decide) (fun k i' j' hk1 hk2 => by
       have hk4 : k + 1 < 2 := by simpa using (List.getElem?_eq_some_iff.1 hk2).1
       obtain rfl : k = 0 := by omega
       obtain rfl := Option.some.inj hk1
       obtain rfl := Option.some.inj hk2
       exact ⟨[], by kernel_rfl⟩)
      (show StgP wr (.slice A j c) (v1.heap.size + 1) ((upA a.ins).take j) (tAct, p) [] wr.drew from rfl) (fun j' op hj' hn ho vs V act hdone hSt hold hat => ?_) (fun k' j' op hk' ho vs V act hvl hSt hold hat Q' K hK => ?_) ?_
     ·have hgr := hSt.grown
      have cO : ∀ g o u, g < v1.heap.size + 1 → wr.cell? ⟨g, o, none⟩ = some u → V.cell? ⟨g, o, none⟩ = some u := fun g o u hg h => (World.cell?_of_block (a := ⟨g, o, none⟩) (hgr.block g (by have := Hbs.out; omega) (fun e => by have := Hlo.out _ e.symm; omega))).trans h
      have cW : ∀ g o u, g < w.heap.size → w.cell? ⟨g, o, none⟩ = some u → V.cell? ⟨g, o, none⟩ = some u := fun g o u hg h => cO g o u (by have := Hv1.out; omega) (HXw.out.cell h)
      rcases (by simp at hn; omega : j' = 0 ∨ j' = 1 ∨ j' = 2 ∨ j' = 3 ∨ j' = 4 ∨ j' = 5 ∨ j' = 6 ∨ j' = 7 ∨ j' = 8 ∨ j' = 9 ∨ j' = 10 ∨ j' = 11) with rfl | rfl | rfl | rfl | rfl | rfl | rfl | rfl | rfl | rfl | rfl | rfl <;> obtain rfl := Option.some.inj ho
      ·exact zbq _ _ _ rfl (hold 5 (by kernel_rfl)) (Tryz.fieldEp v1.heap.size)
      ·exact zbd _ _ rfl v1.heap.size 2 (hat 0 34 (by omega) (by kernel_rfl) (by kernel_rfl)) Tryz.aggLU (cO _ 2 _ (by omega) (cell_of_row _ _ 2 _ _ _ HB.out))
      ·exact zbq _ _ _ rfl (hold 1 (by kernel_rfl)) (Tryz.fieldSa w.heap.size)
      ·exact zbd _ _ rfl w.heap.size 1 (hat 2 36 (by omega) (by kernel_rfl) (by kernel_rfl)) Tryz.aggLA (cO _ 1 _ (by have := Hv1.out; omega) cb)
      ·exact zb4 rfl (hold 4 (by kernel_rfl))
      ·exact exec_index (i := k) rfl (hat 3 37 (by omega) (by kernel_rfl) (by kernel_rfl)) (hat 4 38 (by omega) (by kernel_rfl) (by kernel_rfl)) Tryz.elemLA Tryz.elemLAs (by omega)
      ·exact zbq _ _ _ rfl (hat 5 39 (by omega) (by kernel_rfl) (by kernel_rfl)) (Tryz.fieldAi b (o + k * 5))
      ·exact zbd _ _ rfl b (o + k * 5 + 1) (hat 6 40 (by omega) (by kernel_rfl) (by kernel_rfl)) Tryz.aggLS (cW _ _ _ HbS.out Hc1.out)
      ·exact zb4 rfl (hold 6 (by kernel_rfl))
      ·exact exec_index (i := j) rfl (hat 7 41 (by omega) (by kernel_rfl) (by kernel_rfl)) (hat 8 42 (by omega) (by kernel_rfl) (by kernel_rfl)) Tryz.elemLS Tryz.elemLSs (by omega)
      ·exact zbd _ _ rfl sb (so + j * 1) (hat 9 43 (by omega) (by kernel_rfl) (by kernel_rfl)) Tryz.aggSt (cW _ _ _ Hsl.out Hc0.out)
      ·exact exec_bld rfl (by have k1 := (hat 10 44 (by omega) (by kernel_rfl) (by kernel_rfl)); simp only [List.map_toArray, List.map_cons, List.map_nil, k1]; rfl) (Tryz.bldU tAct p _)
     ·have hk4 : k' < 2 := by simpa using (List.getElem?_eq_some_iff.1 hk').1
      rcases (by omega : k' = 0 ∨ k' = 1) with rfl | rfl <;> obtain rfl := Option.some.inj hk' <;> obtain rfl := Option.some.inj ho
      ·obtain rfl := List.eq_nil_of_length_eq_zero hvl
       obtain rfl : V = wr.drew := hSt
       exact wp_bslice rfl (by have k1 := (hat 11 45 (by omega) (by kernel_rfl) (by kernel_rfl)); simp only [List.map_toArray, List.map_cons, List.map_nil, k1]; rfl) (Tryz.buildU1 _ _ _) (hK _ _ ⟨rfl, rfl⟩)
      ·match vs, hvl, hSt with
       | [s0], _, hSt =>
        obtain ⟨rfl, rfl⟩ := hSt
        refine wp_push (.tmp 35) (.tmp 46) 47 rfl uidR (v1.heap.size + 1) 43 iu _ 32 Tryz.underlying47 hiu uz0 uz1 uz2 rfl (.slice A j c) ((upA a.ins).take j) wr.drew 43 (tAct, p) [.string tAct, .string p] (hat 1 35 (by omega) (by kernel_rfl) (by kernel_rfl)) (hat 12 46 (by omega) (by kernel_rfl) (by kernel_rfl)) (HP.out.ext (zdu wr)) ⟨rfl, Hfit.out⟩ (by rw [Hll.out, zab]; omega) (by rw [Hll.out]; omega) Hbs.out ?_
        intro v' w' ho' hg'
        exact hK _ _ ⟨ho', (GrownBy.of_ext _ (zdu wr)).trans hg'⟩
     ·intro xs vs V hxl hvl hSt hxs
      match vs, hvl, hSt with
      | [s0, s1], _, hSt =>
       obtain ⟨ho5, hg5⟩ := hSt
       obtain ⟨k0, k1, k2, k3, k4, k5, k6, k7, k8, k9, k10, k11, k12, k13, rfl⟩ := lst14 hxl
       have e13 : k13 = s1 := hxs 13 (by omega)
       have hB5 := (hg5.block v1.heap.size (zad HB.out) (fun e => by have := Hlo.out _ e.symm; omega)).trans HB.out
       have hx5 := zas HY.out hg5 fun b e => by have := Hlo.out b e; omega
       have q0 : V.cell? ⟨v1.heap.size, 2, none⟩ = some (.slice A j c) := cell_of_row _ _ 2 _ _ _ hB5
       have q1 : V.frozen? ⟨v1.heap.size, 2, none⟩ = false := frozen_of_row _ _ _ _ _ hB5
       have q2 : v1.heap.size < V.heap.size := zad hB5
       rw [← take_next Hup.out] at ho5
       obtain ⟨A', c', e'⟩ := ho5.shape
       have hl' : ((upA a.ins).take (j + 1)).length = j + 1 := by rw [List.length_take]; simp [upA]; omega
       rw [hl'] at e'
       subst e'
       subst e13
       have HB5 := q_ hB5
       have HX5 := q_ hx5
       have HO5 := q_ ho5
       clear hB5 hx5 ho5 hg5 hl' cb ci hxs hxl HB HP HY HXw hi0 hz0 hz1 hz2 hiu uz0 uz1 uz2
       simp only [List.take, List.drop, zaw]
       go_wp2_with fail
       go_roundw
       case rel => exact ⟨j + 1, by omega, by go_num, q_ (zas HX5.out (GrownBy.setCell V v1.heap.size 2 _) fun b e => by injection e with e; omega), A', c', q_ (box_third HB5.out), q_ (by
         obtain ⟨xs, o1, o2⟩ := HO5.out
         exact ⟨xs, zav o1 (GrownBy.setCell V v1.heap.size 2 _) fun b hb e => by injection e with e; have := (o1.lt b hb).1; omega, za7 o2⟩)⟩
       case measure => simp [intOf]; omega
    ·obtain rfl : j = a.ins.length := by omega
     have HP' : Hid (OwnL uidR 43 (v1.heap.size + 1) wr (.slice A a.ins.length c) (upA a.ins)) := q_ (by
      have h := HP.out
      rwa [List.take_of_length_le (by simp [upA])] at h)
     have HO' := q_ (HO.out.ext HY.out)
     have hY : Hid (entR.At (fun b => b < wr.heap.size ∧ (Value.slice Av k cv).ownBlock ≠ some b) wr (zdd a) [.string tAct, .string a.id, .slice A a.ins.length c, .int .i64 6, .bool false, .int .i64 0, .string ByteArray.empty, .string ByteArray.empty, .string ByteArray.empty, .slice none 0 0, .slice none 0 0]) := q_ (by
      obtain ⟨xs, o1, o2⟩ := HP'.out
      refine ⟨_, recC, rfl, ⟨tAct_fit, Hid'.out⟩, zd3 (R := uidR) (l := upA a.ins) (by simpa [upA] using o1) (za7 (S' := fun _ => False) o2) (by simp [upA, zak]; omega) (fun b hb => hb.elim) (fun b hb => ⟨(o1.lt b hb).2, fun e => ?_⟩), recV_at _ _⟩
      have h1 := (HO.out.lt b e).2
      have h2 := (o1.lt b hb).1
      omega)
     have hll : ((zaz l).take k).length = k := by rw [List.length_take]; simp [zaz]; omega
     have Hll := q_ hll
     have HBxw := q_ ((HY.out.block _ (zad HBx.out)).trans HBx.out)
     have Hsz := q_ (show w.heap.size + 1 ≤ wr.heap.size from zad HBxw.out)
     clear HP hbs hll
     go_wp2_with (first | refine zac rfl 49 _ rfl v1.heap.size 0 rfl za0 zau (cs := [.string tAct, .string a.id, .slice A a.ins.length c, .int .i64 6, .bool false, .int .i64 0, .string ByteArray.empty, .string ByteArray.empty, .string ByteArray.empty, .slice none 0 0, .slice none 0 0]) rfl (zat HB.out) ?_ | (at_builtin; refine zbh rfl (.tmp 49) (.tmp 51) 26 rfl entR (w.heap.size + 1) 49 i0 _ 176 Tryz.underlying26 hi0 hz0 hz1 hz2 rfl (.slice Av k cv) ((zaz l).take k) wr 49 (zdd a) [.string tAct, .string a.id, .slice A a.ins.length c, .int .i64 6, .bool false, .int .i64 0, .string ByteArray.empty, .string ByteArray.empty, .string ByteArray.empty, .slice none 0 0, .slice none 0 0] rfl rfl HO'.out hY.out (by rw [Hll.out, zab]; omega) (by rw [Hll.out]; omega) Hsz.out ?_; intro v' w6 ho6 hg6))
     have hx6 := zas HXw.out hg6 fun b e => by have := (HO'.out.lt b e).1; omega
     have hb6 := (hg6.block _ (zad HBxw.out) (fun e => by have := (HO'.out.lt _ e.symm).1; omega)).trans HBxw.out
     rw [← take_next (actsE_get Ha.out)] at ho6
     have HX6 := q_ hx6
     have HO6 := q_ ho6
     have HB6 := q_ hb6
     clear hx6 ho6 hg6 hb6
     go_wp2_with fail
     go_roundw
     case rel => exact ⟨k + 1, by omega, by go_num, HX6, HB6, HO6⟩
     case measure => simp [intOf]; omega
  ·obtain rfl : k = l.length := by omega
   have HO' : Hid (OwnL entR 49 (w.heap.size + 1) wr u3 (zaz l)) := q_ (by
    have h := HO.out
    rwa [List.take_of_length_le (by simp [zaz])] at h)
   clear HO
   go_wp2_with fail
   go_ret
   exact ⟨_, rfl, HO'.out.low (by omega), HX.out⟩
end Go.Proofs.YtbkaffhbhimglaaGreat
