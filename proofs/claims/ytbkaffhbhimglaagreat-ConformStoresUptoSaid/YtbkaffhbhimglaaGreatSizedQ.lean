/-
  Is a schema small enough: what the statements ask first. The conditions: it lies in memory as it should.
-/
import Derived.Test.YtbkaffhbhimglaaGreatChk12Q
namespace Go.Proofs.YtbkaffhbhimglaaGreat
open Go.RowKit
open Lib renaming hid → q_
set_option maxRecDepth 100000
set_option maxHeartbeats 4000000
def SizedT (x : EntT) : Prop := (Ty.mk 8 ByteArray.empty [] x.attrs).dep ≤ 62 ∧ x.ins.length ≤ 10
def SizedA (x : ActT) : Prop := (Ty.mk 8 ByteArray.empty [] x.ctx).dep ≤ 62 ∧ x.ins.length ≤ 10 ∧ x.prs.length ≤ 10 ∧ x.res.length ≤ 10
structure SizedS (s : Sch) : Prop where
 types : s.types.length ≤ 10
 acts : s.acts.length ≤ 10
 eachT : ∀ (i : Nat) (x : EntT), s.types[i]? = some x → SizedT x
 eachA : ∀ (i : Nat) (x : ActT), s.acts[i]? = some x → SizedA x
theorem sized_ok13 (S : Nat → Prop) (s : Sch) (ss : List Value) (w : World) (hS : ∀ b, S b → b < w.heap.size) (hs : Sch.At S w s ss) :
  Calls Tryz.prog 5 #[.agg ss.toArray] w (zcm (fun r => r = true → SizedS s) w) := by
 obtain ⟨v1, v2, rfl, h1, h2⟩ := id hs
 obtain ⟨A1, c1, rfl, ⟨ha0, ha1, ha2⟩, har⟩ := id h1
 obtain ⟨A2, c2, rfl, ⟨hb0, hb1, hb2⟩, hbr⟩ := id h2
 rw [zak] at ha0 hb0
 rw [zab] at ha2 hb2
 have HS := q_ hS
 have HT := q_ har
 have HC := q_ hbr
 clear hS hs h1 h2 har hbr
 have HX0 := q_ ((Ext.refl w).alloc (.cells #[.slice A1 s.types.length c1, .slice A2 s.acts.length c2] 25))
 have HB0 := q_ (heap_alloc_new w (.cells #[.slice A1 s.types.length c1, .slice A2 s.acts.length c2] 25))
 by_cases q1 : 10 < s.types.length
 ·go_enter Tryz.func5, Tryz.ntmps5
  go_wp2_with fail
  go_ret
  exact ⟨false, by simp, rfl, HX0.out⟩
 by_cases q2 : 10 < s.acts.length
 ·go_enter Tryz.func5, Tryz.ntmps5
  go_wp2_with fail
  go_ret
  exact ⟨false, by simp, rfl, HX0.out⟩
 have q1 : s.types.length ≤ 10 := by omega
 have q2 : s.acts.length ≤ 10 := by omega
 go_enter Tryz.func5, Tryz.ntmps5
 go_wp2_with fail
 go_loopw [3] (fun i' wr => ∃ j : Nat, j ≤ s.types.length ∧ i' = .int .i64 j ∧ Hid (Ext w wr) ∧ Hid (wr.heap[w.heap.size]? = some (.cells #[.slice A1 s.types.length c1, .slice A2 s.acts.length c2] 25 (0, 0))) ∧ Hid (∀ i x, i < j → s.types[i]? = some x → SizedT x)) (fun i' _ => s.types.length - (intOf i').toNat)
 case atStart => exact ⟨0, Nat.zero_le _, rfl, HX0, HB0, q_ fun _ _ h => by omega⟩
 case round =>
  clear HX0 HB0
  obtain ⟨j, hj, rfl, HX, HB, HA⟩ := hrel
  have c0 : wr.cell? ⟨w.heap.size, 0, none⟩ = some (.slice A1 s.types.length c1) := cell_of_row _ _ 0 _ _ _ HB.out
  by_cases hlt : j < s.types.length
  ·obtain ⟨b, o, eA, hSb, hrow⟩ := HT.out (by omega)
   subst eA
   obtain ⟨x, hx⟩ : ∃ x, s.types[j]? = some x := ⟨_, List.getElem?_eq_getElem hlt⟩
   obtain ⟨cx, hcx, hxa⟩ := hrow j x hx
   obtain ⟨u1, u2, rfl, _, hins, hat⟩ := hxa
   obtain ⟨Ia, Ic, rfl, ⟨_, _, Im⟩, _⟩ := id hins
   rw [zab] at Im
   obtain ⟨Ca, cc, rfl, ⟨g0, g1, g2⟩, _⟩ := id hat
   rw [zab] at g2
   have k9 : wr.cell? ⟨b, o + j * 3 + 2, none⟩ = some (.slice Ca x.attrs.length cc) := HX.out.cell (hcx 2 _ rfl)
   have HK1 := q_ (show w.cell? ⟨b, o + j * 3 + 1, none⟩ = some (.slice Ia x.ins.length Ic) from hcx 1 _ rfl)
   have HAt : Hid (∀ X, Ext w X → Ty.At S X (Ty.mk 8 ByteArray.empty [] x.attrs) [.int .i64 8, .string ByteArray.empty, .slice none 0 0, .slice Ca x.attrs.length cc]) := q_ fun X hX => Ty.At.of (by unfold I64; omega) (by rw [zab]; decide) (Rep.RowsAt.nil _ _) (hat.alike (Alike.of_ext hX HS.out))
   have Hx := q_ hx
   have HT1 := q_ (heap_alloc_new wr (.cells #[.int .i64 8, .string ByteArray.empty, .slice none 0 0, .slice Ca x.attrs.length cc] 53))
   have HX1 := q_ (HX.out.alloc (.cells #[.int .i64 8, .string ByteArray.empty, .slice none 0 0, .slice Ca x.attrs.length cc] 53))
   have HB1 := q_ ((heap_alloc_old wr (.cells #[.int .i64 8, .string ByteArray.empty, .slice none 0 0, .slice Ca x.attrs.length cc] 53) (zad HB.out)).trans HB.out)
   clear hx hcx hrow hSb hins hat
   go_wp2_with fail
   clear k9 c0
   refine (fewT_ok13 _ (Ty.mk 8 ByteArray.empty [] x.attrs) 0 S _ [_, _, _, _] (Nat.le_refl _) (by omega) (fun b hb => Nat.lt_of_lt_of_le (HS.out b hb) HX1.out.size) (HAt.out _ HX1.out)).mono ?_
   rintro e w1 ⟨r, hr, rfl, hx1⟩
   have HX2 := q_ (HX1.out.trans hx1)
   have HB2 := q_ ((hx1.block _ (zad HB1.out)).trans HB1.out)
   have HT2 := q_ ((hx1.block _ (zad HT1.out)).trans HT1.out)
   have HR := q_ hr
   clear hx1 hr HX1 HB1 HT1
   cases r with
   | false =>
    go_wp2_with fail
    go_ret
    exact ⟨false, by simp, rfl, HX2.out⟩
   | true =>
   obtain ⟨t0, t1, t2, t3⟩ := box4c HT2.out
   go_wp2_with fail
   clear t0 t1 t2 t3
   refine (sizeT_ok13 _ (Ty.mk 8 ByteArray.empty [] x.attrs) S _ [_, _, _, _] (Nat.le_refl _) (fun b hb => Nat.lt_of_lt_of_le (HS.out b hb) HX2.out.size) (HAt.out _ HX2.out)).mono ?_
   rintro e w2 ⟨z, _, rfl, hx2⟩
   have HX3 := q_ (HX2.out.trans hx2)
   have HB3 := q_ ((hx2.block _ (zad HB2.out)).trans HB2.out)
   clear hx2 HX2 HB2
   have HX2 := HX3
   have HB2 := HB3
   clear HX3 HB3
   by_cases hz : 100 < z
   ·go_wp2_with fail
    go_ret
    exact ⟨false, by simp, rfl, HX2.out⟩
   have cw20 : w2.cell? ⟨w.heap.size, 0, none⟩ = some (.slice (some ⟨b, o, none⟩) s.types.length c1) := cell_of_row _ _ 0 _ _ _ HB2.out
   have kw21 : w2.cell? ⟨b, o + j * 3 + 1, none⟩ = some (.slice Ia x.ins.length Ic) := HX2.out.cell HK1.out
   by_cases hins10 : 10 < x.ins.length
   ·go_wp2_with fail
    go_ret
    exact ⟨false, by simp, rfl, HX2.out⟩
   go_wp2_with fail
   go_roundw
   case rel => exact ⟨j + 1, by omega, by go_num, HX2, HB2, q_ fun i y hi hy => by
    by_cases hij : i = j
    ·subst hij; rw [Hx.out] at hy; cases hy; exact ⟨by have := HR.out (by trivial); omega, by omega⟩
    ·exact HA.out i y (by omega) hy⟩
   case measure => simp [intOf]; omega
  ·have hje : j = s.types.length := by omega
   subst hje
   have HAt1 := HA
   go_wp2_with fail
   have HX0 := HX
   have HB0 := HB
   clear HA HX HB c0
   go_loopw [6] (fun i' wr => ∃ j : Nat, j ≤ s.acts.length ∧ i' = .int .i64 j ∧ Hid (Ext w wr) ∧ Hid (wr.heap[w.heap.size]? = some (.cells #[.slice A1 s.types.length c1, .slice A2 s.acts.length c2] 25 (0, 0))) ∧ Hid (∀ i x, i < j → s.acts[i]? = some x → SizedA x)) (fun i' _ => s.acts.length - (intOf i').toNat)
   case atStart => exact ⟨0, Nat.zero_le _, rfl, HX0, HB0, q_ fun _ _ h => by omega⟩
   case round =>
    clear HX0 HB0
    obtain ⟨j, hj, rfl, HX, HB, HA⟩ := hrel
    have c0 : wr.cell? ⟨w.heap.size, 1, none⟩ = some (.slice A2 s.acts.length c2) := cell_of_row _ _ 1 _ _ _ HB.out
    by_cases hlt : j < s.acts.length
    ·obtain ⟨b, o, eA, hSb, hrow⟩ := HC.out (by omega)
     subst eA
     obtain ⟨x, hx⟩ : ∃ x, s.acts[j]? = some x := ⟨_, List.getElem?_eq_getElem hlt⟩
     obtain ⟨cx, hcx, hxa⟩ := hrow j x hx
     obtain ⟨u1, u2, u3, u4, rfl, _, hins, hprs, hres, hat⟩ := hxa
     obtain ⟨Ia, Ic, rfl, ⟨_, _, Im⟩, _⟩ := id hins
     rw [zab] at Im
     obtain ⟨Pa, Pc, rfl, ⟨_, _, Pm⟩, _⟩ := id hprs
     rw [zab] at Pm
     obtain ⟨Ra, Rc, rfl, ⟨_, _, Rm⟩, _⟩ := id hres
     rw [zab] at Rm
     obtain ⟨Ca, cc, rfl, ⟨g0, g1, g2⟩, _⟩ := id hat
     rw [zab] at g2
     have k9 : wr.cell? ⟨b, o + j * 5 + 4, none⟩ = some (.slice Ca x.ctx.length cc) := HX.out.cell (hcx 4 _ rfl)
     have HK1 := q_ (show w.cell? ⟨b, o + j * 5 + 1, none⟩ = some (.slice Ia x.ins.length Ic) from hcx 1 _ rfl)
     have HK2 := q_ (show w.cell? ⟨b, o + j * 5 + 2, none⟩ = some (.slice Pa x.prs.length Pc) from hcx 2 _ rfl)
     have HK3 := q_ (show w.cell? ⟨b, o + j * 5 + 3, none⟩ = some (.slice Ra x.res.length Rc) from hcx 3 _ rfl)
     have HAt : Hid (∀ X, Ext w X → Ty.At S X (Ty.mk 8 ByteArray.empty [] x.ctx) [.int .i64 8, .string ByteArray.empty, .slice none 0 0, .slice Ca x.ctx.length cc]) := q_ fun X hX => Ty.At.of (by unfold I64; omega) (by rw [zab]; decide) (Rep.RowsAt.nil _ _) (hat.alike (Alike.of_ext hX HS.out))
     have Hx := q_ hx
     have HT1 := q_ (heap_alloc_new wr (.cells #[.int .i64 8, .string ByteArray.empty, .slice none 0 0, .slice Ca x.ctx.length cc] 53))
     have HX1 := q_ (HX.out.alloc (.cells #[.int .i64 8, .string ByteArray.empty, .slice none 0 0, .slice Ca x.ctx.length cc] 53))
     have HB1 := q_ ((heap_alloc_old wr (.cells #[.int .i64 8, .string ByteArray.empty, .slice none 0 0, .slice Ca x.ctx.length cc] 53) (zad HB.out)).trans HB.out)
     clear hx hcx hrow hSb hins hat hprs hres
     go_wp2_with fail
     clear k9 c0
     refine (fewT_ok13 _ (Ty.mk 8 ByteArray.empty [] x.ctx) 0 S _ [_, _, _, _] (Nat.le_refl _) (by omega) (fun b hb => Nat.lt_of_lt_of_le (HS.out b hb) HX1.out.size) (HAt.out _ HX1.out)).mono ?_
     rintro e w1 ⟨r, hr, rfl, hx1⟩
     have HX2 := q_ (HX1.out.trans hx1)
     have HB2 := q_ ((hx1.block _ (zad HB1.out)).trans HB1.out)
     have HT2 := q_ ((hx1.block _ (zad HT1.out)).trans HT1.out)
     have HR := q_ hr
     clear hx1 hr HX1 HB1 HT1
     cases r with
     | false =>
      go_wp2_with fail
      go_ret
      exact ⟨false, by simp, rfl, HX2.out⟩
     | true =>
     obtain ⟨t0, t1, t2, t3⟩ := box4c HT2.out
     go_wp2_with fail
     clear t0 t1 t2 t3
     refine (sizeT_ok13 _ (Ty.mk 8 ByteArray.empty [] x.ctx) S _ [_, _, _, _] (Nat.le_refl _) (fun b hb => Nat.lt_of_lt_of_le (HS.out b hb) HX2.out.size) (HAt.out _ HX2.out)).mono ?_
     rintro e w2 ⟨z, _, rfl, hx2⟩
     have HX3 := q_ (HX2.out.trans hx2)
     have HB3 := q_ ((hx2.block _ (zad HB2.out)).trans HB2.out)
     clear hx2 HX2 HB2
     have HX2 := HX3
     have HB2 := HB3
     clear HX3 HB3
     by_cases hz : 100 < z
     ·go_wp2_with fail
      go_ret
      exact ⟨false, by simp, rfl, HX2.out⟩
     have cw20 : w2.cell? ⟨w.heap.size, 1, none⟩ = some (.slice (some ⟨b, o, none⟩) s.acts.length c2) := cell_of_row _ _ 1 _ _ _ HB2.out
     have kw21 : w2.cell? ⟨b, o + j * 5 + 1, none⟩ = some (.slice Ia x.ins.length Ic) := HX2.out.cell HK1.out
     have kw22 : w2.cell? ⟨b, o + j * 5 + 2, none⟩ = some (.slice Pa x.prs.length Pc) := HX2.out.cell HK2.out
     have kw23 : w2.cell? ⟨b, o + j * 5 + 3, none⟩ = some (.slice Ra x.res.length Rc) := HX2.out.cell HK3.out
     by_cases hins10 : 10 < x.ins.length
     ·go_wp2_with fail
      go_ret
      exact ⟨false, by simp, rfl, HX2.out⟩
     by_cases hprs10 : 10 < x.prs.length
     ·go_wp2_with fail
      go_ret
      exact ⟨false, by simp, rfl, HX2.out⟩
     by_cases hres10 : 10 < x.res.length
     ·go_wp2_with fail
      go_ret
      exact ⟨false, by simp, rfl, HX2.out⟩
     go_wp2_with fail
     go_roundw
     case rel => exact ⟨j + 1, by omega, by go_num, HX2, HB2, q_ fun i y hi hy => by
      by_cases hij : i = j
      ·subst hij; rw [Hx.out] at hy; cases hy; exact ⟨by have := HR.out (by trivial); omega, by omega, by omega, by omega⟩
      ·exact HA.out i y (by omega) hy⟩
     case measure => simp [intOf]; omega
    ·have hje : j = s.acts.length := by omega
     subst hje
     go_wp2_with fail
     go_ret
     exact ⟨true, fun _ => ⟨q1, q2, fun i x hx => HAt1.out i x (List.getElem?_eq_some_iff.1 hx).1 hx, fun i x hx => HA.out i x (List.getElem?_eq_some_iff.1 hx).1 hx⟩, rfl, HX.out⟩
end Go.Proofs.YtbkaffhbhimglaaGreat
