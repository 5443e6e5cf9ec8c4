/-
  The document's check of a schema: what it says when it says that the schema may be. The conditions: the schema lies in memory as it should, and is small.
-/
import Derived.Test.YtbkaffhbhimglaaGreatLeadsQ
import Derived.Test.YtbkaffhbhimglaaGreatSizedQ
import Derived.Test.YtbkaffhbhimglaaGreatPathQ
namespace Go.Proofs.YtbkaffhbhimglaaGreat
open Go.RowKit
open Lib renaming hid → q_
set_option maxRecDepth 100000
set_option maxHeartbeats 8000000
theorem pos_at {o : Option Nat} {j : Nat} (h : pos o = (j : Int)) : o = some j := by
 cases o with
 | none => exfalso; simp only [pos] at h; omega
 | some i => simp only [pos] at h; rw [show i = j by omega]
theorem Tryz.aggEt : ∀ w, (isAgg 39).run Tryz.prog w = .ok true w := fun _ => by kernel_rfl
theorem Tryz.sizeEt : ∀ w, (Go.sizeOf 39).run Tryz.prog w = .ok 3 w := fun _ => by kernel_rfl
theorem Tryz.aggAt : ∀ w, (isAgg 41).run Tryz.prog w = .ok true w := fun _ => by kernel_rfl
theorem Tryz.sizeAt : ∀ w, (Go.sizeOf 41).run Tryz.prog w = .ok 5 w := fun _ => by kernel_rfl
def SchOk (s : Sch) : Prop := (∀ t ∈ s.types, (Ty.mk 8 ByteArray.empty [] t.attrs).ones = true) ∧ (∀ a ∈ s.acts, (Ty.mk 8 ByteArray.empty [] a.ctx).ones = true) ∧ ActsOk s.acts
theorem check12_ok (S : Nat → Prop) (s : Sch) (ss : List Value) (w : World) (hsz : SizedS s) (hS : ∀ b, S b → b < w.heap.size) (hs : Sch.At S w s ss) :
  Calls Tryz.prog 7 #[.agg ss.toArray] w (SomeInt (fun z => z = 0 → SchOk s) w) := by
 obtain ⟨v1, v2, rfl, h1, h2⟩ := id hs
 obtain ⟨A1, c1, rfl, ⟨ha0, ha1, ha2⟩, har⟩ := id h1
 obtain ⟨A2, c2, rfl, ⟨hb0, hb1, hb2⟩, hbr⟩ := id h2
 rw [zak] at ha0 hb0
 rw [zab] at ha2 hb2
 have HS := q_ hS
 have HSs := q_ hs
 have HSz := q_ hsz
 have HT := q_ har
 have HC := q_ hbr
 clear hS hs h1 h2 har hbr hsz
 have HX0 := q_ ((Ext.refl w).alloc (.cells #[.slice A1 s.types.length c1, .slice A2 s.acts.length c2] 25))
 have HB0 := q_ (heap_alloc_new w (.cells #[.slice A1 s.types.length c1, .slice A2 s.acts.length c2] 25))
 go_enter Tryz.func7, Tryz.ntmps7
 go_wp2_with fail
 go_loopw [3] (fun i' wr => ∃ j : Nat, j ≤ s.types.length ∧ i' = .int .i64 j ∧ Hid (Ext w wr) ∧ Hid (wr.heap[w.heap.size]? = some (.cells #[.slice A1 s.types.length c1, .slice A2 s.acts.length c2] 25 (0, 0))) ∧ Hid (∀ (i : Nat) (x : EntT), i < j → s.types[i]? = some x → True)) (fun i' _ => s.types.length - (intOf i').toNat)
 case atStart => exact ⟨0, Nat.zero_le _, rfl, HX0, HB0, q_ fun _ _ h => by omega⟩
 case round =>
  clear HX0 HB0
  obtain ⟨j, hj, rfl, HX, HB, HA⟩ := hrel
  have cw : wr.cell? ⟨w.heap.size, 0, none⟩ = some (.slice A1 s.types.length c1) := cell_of_row _ _ 0 _ _ _ HB.out
  by_cases hlt : j < s.types.length
  ·obtain ⟨b, o, eA, hSb, hrow⟩ := HT.out (by omega)
   subst eA
   obtain ⟨x, hx⟩ : ∃ x, s.types[j]? = some x := ⟨_, List.getElem?_eq_getElem hlt⟩
   obtain ⟨cx, hcx, hxa⟩ := hrow j x hx
   have Hx := q_ hx
   obtain ⟨_, _, rfl, _⟩ := hxa
   have k0 := zaa (show wr.cell? ⟨b, o + j * 3, none⟩ = some (.string x.name) from HX.out.cell (hcx 0 _ rfl))
   have f0 := zaa (show wr.cell? ⟨w.heap.size, 0, none⟩ = some (.slice (some ⟨b, o, none⟩) s.types.length c1) from cell_of_row _ _ 0 _ _ _ HB.out)
   have f1 := zaa (show wr.cell? ⟨w.heap.size, 1, none⟩ = some (.slice A2 s.acts.length c2) from cell_of_row _ _ 1 _ _ _ HB.out)
   obtain ⟨p, hp⟩ : ∃ p, pos (zca s.types x.name) = p := ⟨_, rfl⟩
   have Hp := q_ hp
   have KT : Hid (∀ X, Ext wr X → Calls Tryz.prog 18 #[.agg #[.slice (some ⟨b, o, none⟩) s.types.length c1, .slice A2 s.acts.length c2], .string x.name] X fun e w' => e = .returned (.int .i64 p) ∧ Ext X w') := q_ fun X hX => by
    have h := styR_ok S s [.slice (some ⟨b, o, none⟩) s.types.length c1, .slice A2 s.acts.length c2] x.name X (fun b hb => Nat.lt_of_lt_of_le (HS.out b hb) (HX.out.trans hX).size) (HSs.out.alike (Alike.of_ext (HX.out.trans hX) HS.out))
    rw [hp] at h
    exact h
   clear hx hcx hrow hSb hp
   by_cases hne : p = j
   ·have e0 : (p != (j : Int)) = false := by simpa using hne
    have Hne := q_ hne
    clear hne
    go_wp2_with fail
    refine zae (by kernel_rfl) (by kernel_rfl) ?_
    iterate 7 (go_big_quiet_step (fail))
    go_big_quiet_step ((go_at_call 18; exact zan KT.out _ _))
    iterate 2 (go_big_quiet_step (fail))
    refine wpQuiet_nil ?_
    intro w5 hw5
    have HX5 := q_ (HX.out.trans hw5)
    have HB5 := q_ ((hw5.block _ (zad HB.out)).trans HB.out)
    clear hw5 k0 f0 f1 KT cw
    go_wp2_with fail
    go_roundw
    case rel => exact ⟨j + 1, by omega, by go_num, HX5, HB5, q_ fun i y hi hy => by
     by_cases hij : i = j
     ·subst hij; rw [Hx.out] at hy; cases hy; exact trivial
     ·exact HA.out i y (by omega) hy⟩
    case measure => simp [intOf]; omega
   ·have e0 : (p != (j : Int)) = true := by simpa using hne
    clear hne
    go_wp2_with fail
    refine zae (by kernel_rfl) (by kernel_rfl) ?_
    iterate 7 (go_big_quiet_step (fail))
    go_big_quiet_step ((go_at_call 18; exact zan KT.out _ _))
    iterate 2 (go_big_quiet_step (fail))
    refine wpQuiet_nil ?_
    intro w5 hw5
    have HX2 := q_ (HX.out.trans hw5)
    clear hw5 k0 f0 f1 KT cw
    go_wp2_with fail
    go_ret
    exact ⟨13, by simp, rfl, HX2.out⟩
  ·have hje : j = s.types.length := by omega
   subst hje
   have HFa := HA
   clear HA
   go_wp2_with fail
   have HX0 := HX
   have HB0 := HB
   clear HX HB cw
   go_loopw [4] (fun i' wr => ∃ j : Nat, j ≤ s.acts.length ∧ i' = .int .i64 j ∧ Hid (Ext w wr) ∧ Hid (wr.heap[w.heap.size]? = some (.cells #[.slice A1 s.types.length c1, .slice A2 s.acts.length c2] 25 (0, 0))) ∧ Hid (∀ (i : Nat) (x : ActT), i < j → s.acts[i]? = some x → zbi s.acts x.id = some i)) (fun i' _ => s.acts.length - (intOf i').toNat)
   case atStart => exact ⟨0, Nat.zero_le _, rfl, HX0, HB0, q_ fun _ _ h => by omega⟩
   case round =>
    clear HX0 HB0
    obtain ⟨j, hj, rfl, HX, HB, HA⟩ := hrel
    have cw : wr.cell? ⟨w.heap.size, 1, none⟩ = some (.slice A2 s.acts.length c2) := cell_of_row _ _ 1 _ _ _ HB.out
    by_cases hlt : j < s.acts.length
    ·obtain ⟨b, o, eA, hSb, hrow⟩ := HC.out (by omega)
     subst eA
     obtain ⟨x, hx⟩ : ∃ x, s.acts[j]? = some x := ⟨_, List.getElem?_eq_getElem hlt⟩
     obtain ⟨cx, hcx, hxa⟩ := hrow j x hx
     have Hx := q_ hx
     obtain ⟨_, _, _, _, rfl, _⟩ := hxa
     have k0 := zaa (show wr.cell? ⟨b, o + j * 5, none⟩ = some (.string x.id) from HX.out.cell (hcx 0 _ rfl))
     have f0 := zaa (show wr.cell? ⟨w.heap.size, 0, none⟩ = some (.slice A1 s.types.length c1) from cell_of_row _ _ 0 _ _ _ HB.out)
     have f1 := zaa (show wr.cell? ⟨w.heap.size, 1, none⟩ = some (.slice (some ⟨b, o, none⟩) s.acts.length c2) from cell_of_row _ _ 1 _ _ _ HB.out)
     obtain ⟨p, hp⟩ : ∃ p, pos (zbi s.acts x.id) = p := ⟨_, rfl⟩
     have Hp := q_ hp
     have KT : Hid (∀ X, Ext wr X → Calls Tryz.prog 19 #[.agg #[.slice A1 s.types.length c1, .slice (some ⟨b, o, none⟩) s.acts.length c2], .string x.id] X fun e w' => e = .returned (.int .i64 p) ∧ Ext X w') := q_ fun X hX => by
      have h := sacR_ok S s [.slice A1 s.types.length c1, .slice (some ⟨b, o, none⟩) s.acts.length c2] x.id X (fun b hb => Nat.lt_of_lt_of_le (HS.out b hb) (HX.out.trans hX).size) (HSs.out.alike (Alike.of_ext (HX.out.trans hX) HS.out))
      rw [hp] at h
      exact h
     clear hx hcx hrow hSb hp
     by_cases hne : p = j
     ·have e0 : (p != (j : Int)) = false := by simpa using hne
      have Hne := q_ hne
      clear hne
      go_wp2_with fail
      refine zae (by kernel_rfl) (by kernel_rfl) ?_
      iterate 7 (go_big_quiet_step (fail))
      go_big_quiet_step ((go_at_call 19; exact zan KT.out _ _))
      iterate 2 (go_big_quiet_step (fail))
      refine wpQuiet_nil ?_
      intro w5 hw5
      have HX5 := q_ (HX.out.trans hw5)
      have HB5 := q_ ((hw5.block _ (zad HB.out)).trans HB.out)
      clear hw5 k0 f0 f1 KT cw
      go_wp2_with fail
      go_roundw
      case rel => exact ⟨j + 1, by omega, by go_num, HX5, HB5, q_ fun i y hi hy => by
       by_cases hij : i = j
       ·subst hij; rw [Hx.out] at hy; cases hy; exact by have h1 := Hp.out; rw [Hne.out] at h1; exact pos_at h1
       ·exact HA.out i y (by omega) hy⟩
      case measure => simp [intOf]; omega
     ·have e0 : (p != (j : Int)) = true := by simpa using hne
      clear hne
      go_wp2_with fail
      refine zae (by kernel_rfl) (by kernel_rfl) ?_
      iterate 7 (go_big_quiet_step (fail))
      go_big_quiet_step ((go_at_call 19; exact zan KT.out _ _))
      iterate 2 (go_big_quiet_step (fail))
      refine wpQuiet_nil ?_
      intro w5 hw5
      have HX2 := q_ (HX.out.trans hw5)
      clear hw5 k0 f0 f1 KT cw
      go_wp2_with fail
      go_ret
      exact ⟨13, by simp, rfl, HX2.out⟩
    ·have hje : j = s.acts.length := by omega
     subst hje
     have HFb := HA
     clear HA
     go_wp2_with fail
     have HX0 := HX
     have HB0 := HB
     clear HX HB cw
     go_loopw [5] (fun i' wr => ∃ j : Nat, j ≤ s.types.length ∧ i' = .int .i64 j ∧ Hid (Ext w wr) ∧ Hid (wr.heap[w.heap.size]? = some (.cells #[.slice A1 s.types.length c1, .slice A2 s.acts.length c2] 25 (0, 0))) ∧ Hid (∀ (i : Nat) (x : EntT), i < j → s.types[i]? = some x → (Ty.mk 8 ByteArray.empty [] x.attrs).ones = true)) (fun i' _ => s.types.length - (intOf i').toNat)
     case atStart => exact ⟨0, Nat.zero_le _, rfl, HX0, HB0, q_ fun _ _ h => by omega⟩
     case round =>
      clear HX0 HB0
      obtain ⟨j, hj, rfl, HX, HB, HA⟩ := hrel
      have cw : wr.cell? ⟨w.heap.size, 0, none⟩ = some (.slice A1 s.types.length c1) := cell_of_row _ _ 0 _ _ _ HB.out
      by_cases hlt : j < s.types.length
      ·obtain ⟨b, o, eA, hSb, hrow⟩ := HT.out (by omega)
       subst eA
       obtain ⟨x, hx⟩ : ∃ x, s.types[j]? = some x := ⟨_, List.getElem?_eq_getElem hlt⟩
       obtain ⟨cx, hcx, hxa⟩ := hrow j x hx
       have Hx := q_ hx
       obtain ⟨u1, u2, rfl, hnm, hins, hat⟩ := hxa
       obtain ⟨Ia, ic, rfl, ⟨_, _, _⟩, _⟩ := id hins
       obtain ⟨Ca, cc, rfl, ⟨_, _, _⟩, _⟩ := id hat
       have HNm := q_ hnm
       have HIn := q_ hins
       have HAt := q_ hat
       have k0 : wr.cell? ⟨b, o + j * 3, none⟩ = some (.string x.name) := HX.out.cell (hcx 0 _ rfl)
       have k1 : wr.cell? ⟨b, o + j * 3 + 1, none⟩ = some (.slice Ia x.ins.length ic) := HX.out.cell (hcx 1 _ rfl)
       have k2 : wr.cell? ⟨b, o + j * 3 + 2, none⟩ = some (.slice Ca x.attrs.length cc) := HX.out.cell (hcx 2 _ rfl)
       have HE1 := q_ (heap_alloc_new wr (.cells #[.string x.name, .slice Ia x.ins.length ic, .slice Ca x.attrs.length cc] 39))
       have HX1 := q_ (HX.out.alloc (.cells #[.string x.name, .slice Ia x.ins.length ic, .slice Ca x.attrs.length cc] 39))
       have HB1 := q_ ((heap_alloc_old wr (.cells #[.string x.name, .slice Ia x.ins.length ic, .slice Ca x.attrs.length cc] 39) (zad HB.out)).trans HB.out)
       have HDp := q_ (show (Ty.mk 8 ByteArray.empty [] x.attrs).dep ≤ 1000000 by have := (HSz.out.eachT j x hx).1; omega)
       have HCx := q_ (show CellsAt wr b (o + j * 3) [.string x.name, .slice Ia x.ins.length ic, .slice Ca x.attrs.length cc] from fun i v hi => HX.out.cell (hcx i v hi))
       clear hx hcx hrow hSb hnm hins hat
       go_wp2_with (first | refine zac rfl 39 _ rfl b (o + j * 3) rfl Tryz.aggEt Tryz.sizeEt rfl HCx.out ?_)
       clear k0 k1 k2 cw HCx
       refine (path02_ok x.name _ HNm.out).mono ?_
       rintro e w1 ⟨r1, _, rfl, hx1⟩
       have HX' := q_ (HX1.out.trans hx1)
       have HB' := q_ ((hx1.block _ (zad HB1.out)).trans HB1.out)
       have HE' := q_ ((hx1.block _ (zad HE1.out)).trans HE1.out)
       clear hx1 HX1 HB1 HE1
       have HX1 := HX'
       have HB1 := HB'
       have HE1 := HE'
       clear HX' HB' HE'
       have f0 : w1.cell? ⟨w.heap.size, 0, none⟩ = some (.slice (some ⟨b, o, none⟩) s.types.length c1) := cell_of_row _ _ 0 _ _ _ HB1.out
       have f1 : w1.cell? ⟨w.heap.size, 1, none⟩ = some (.slice A2 s.acts.length c2) := cell_of_row _ _ 1 _ _ _ HB1.out
       have g0 : w1.cell? ⟨wr.heap.size, 0, none⟩ = some (.string x.name) := cell_of_row _ _ 0 _ _ _ HE1.out
       have g1 : w1.cell? ⟨wr.heap.size, 1, none⟩ = some (.slice Ia x.ins.length ic) := cell_of_row _ _ 1 _ _ _ HE1.out
       have g2 : w1.cell? ⟨wr.heap.size, 2, none⟩ = some (.slice Ca x.attrs.length cc) := cell_of_row _ _ 2 _ _ _ HE1.out
       go_wp2_with fail
       clear f0 f1 g0 g1 g2
       refine (types12_ok S s [.slice (some ⟨b, o, none⟩) s.types.length c1, .slice A2 s.acts.length c2] x.ins _ w1 (fun b hb => Nat.lt_of_lt_of_le (HS.out b hb) HX1.out.size) (HSs.out.alike (Alike.of_ext HX1.out HS.out)) (HIn.out.alike (Alike.of_ext HX1.out HS.out))).mono ?_
       rintro e w2 ⟨r2, _, rfl, hx1⟩
       have HX' := q_ (HX1.out.trans hx1)
       have HB' := q_ ((hx1.block _ (zad HB1.out)).trans HB1.out)
       have HE' := q_ ((hx1.block _ (zad HE1.out)).trans HE1.out)
       clear hx1 HX1 HB1 HE1
       have HX1 := HX'
       have HB1 := HB'
       have HE1 := HE'
       clear HX' HB' HE'
       have f0 : w2.cell? ⟨w.heap.size, 0, none⟩ = some (.slice (some ⟨b, o, none⟩) s.types.length c1) := cell_of_row _ _ 0 _ _ _ HB1.out
       have f1 : w2.cell? ⟨w.heap.size, 1, none⟩ = some (.slice A2 s.acts.length c2) := cell_of_row _ _ 1 _ _ _ HB1.out
       have g0 : w2.cell? ⟨wr.heap.size, 0, none⟩ = some (.string x.name) := cell_of_row _ _ 0 _ _ _ HE1.out
       have g1 : w2.cell? ⟨wr.heap.size, 1, none⟩ = some (.slice Ia x.ins.length ic) := cell_of_row _ _ 1 _ _ _ HE1.out
       have g2 : w2.cell? ⟨wr.heap.size, 2, none⟩ = some (.slice Ca x.attrs.length cc) := cell_of_row _ _ 2 _ _ _ HE1.out
       go_wp2_with fail
       clear f0 f1 g0 g1 g2
       refine (row12_ok S s [.slice (some ⟨b, o, none⟩) s.types.length c1, .slice A2 s.acts.length c2] x.attrs _ w2 HDp.out (fun b hb => Nat.lt_of_lt_of_le (HS.out b hb) HX1.out.size) (HSs.out.alike (Alike.of_ext HX1.out HS.out)) (HAt.out.alike (Alike.of_ext HX1.out HS.out))).mono ?_
       rintro e w3 ⟨r3, hr3, rfl, hx1⟩
       have HX' := q_ (HX1.out.trans hx1)
       have HB' := q_ ((hx1.block _ (zad HB1.out)).trans HB1.out)
       have HE' := q_ ((hx1.block _ (zad HE1.out)).trans HE1.out)
       clear hx1 HX1 HB1 HE1
       have HX1 := HX'
       have HB1 := HB'
       have HE1 := HE'
       clear HX' HB' HE'
       have HR3 := q_ hr3
       clear hr3
       have g0 : w3.cell? ⟨wr.heap.size, 0, none⟩ = some (.string x.name) := cell_of_row _ _ 0 _ _ _ HE1.out
       have HX2 := HX1
       clear HX1
       cases r1 with
       | false =>
        go_wp2_with fail
        go_ret
        exact ⟨40, by simp, rfl, HX2.out⟩
       | true =>
       by_cases hac : x.name.toList = [65, 99, 116, 105, 111, 110]
       ·have e1 : (x.name.toList == [65, 99, 116, 105, 111, 110]) = true := by simpa using hac
        go_wp2_with fail
        go_ret
        exact ⟨40, by simp, rfl, HX2.out⟩
       have e1 : (x.name.toList == [65, 99, 116, 105, 111, 110]) = false := by simpa using hac
       cases r2 with
       | false =>
        go_wp2_with fail
        go_ret
        exact ⟨40, by simp, rfl, HX2.out⟩
       | true =>
       cases r3 with
       | false =>
        go_wp2_with fail
        go_ret
        exact ⟨40, by simp, rfl, HX2.out⟩
       | true =>
       go_wp2_with fail
       go_roundw
       case rel => exact ⟨j + 1, by omega, by go_num, HX2, HB1, q_ fun i y hi hy => by
        by_cases hij : i = j
        ·subst hij; rw [Hx.out] at hy; cases hy; exact HR3.out (by trivial)
        ·exact HA.out i y (by omega) hy⟩
       case measure => simp [intOf]; omega
      ·have hje : j = s.types.length := by omega
       subst hje
       have HFc := HA
       clear HA
       go_wp2_with fail
       have HX0 := HX
       have HB0 := HB
       clear HX HB cw
       go_loopw [10] (fun i' wr => ∃ j : Nat, j ≤ s.acts.length ∧ i' = .int .i64 j ∧ Hid (Ext w wr) ∧ Hid (wr.heap[w.heap.size]? = some (.cells #[.slice A1 s.types.length c1, .slice A2 s.acts.length c2] 25 (0, 0))) ∧ Hid (∀ (i : Nat) (x : ActT), i < j → s.acts[i]? = some x → (Ty.mk 8 ByteArray.empty [] x.ctx).ones = true ∧ ∀ p ∈ x.ins, zbi s.acts p ≠ none)) (fun i' _ => s.acts.length - (intOf i').toNat)
       case atStart => exact ⟨0, Nat.zero_le _, rfl, HX0, HB0, q_ fun _ _ h => by omega⟩
       case round =>
        clear HX0 HB0
        obtain ⟨j, hj, rfl, HX, HB, HA⟩ := hrel
        have cw : wr.cell? ⟨w.heap.size, 1, none⟩ = some (.slice A2 s.acts.length c2) := cell_of_row _ _ 1 _ _ _ HB.out
        by_cases hlt : j < s.acts.length
        ·obtain ⟨b, o, eA, hSb, hrow⟩ := HC.out (by omega)
         subst eA
         obtain ⟨x, hx⟩ : ∃ x, s.acts[j]? = some x := ⟨_, List.getElem?_eq_getElem hlt⟩
         obtain ⟨cx, hcx, hxa⟩ := hrow j x hx
         have Hx := q_ hx
         obtain ⟨u1, u2, u3, u4, rfl, hnm, hins, hprs, hres, hat⟩ := hxa
         obtain ⟨Ia, ic, rfl, ⟨i0, i1, i2⟩, hir⟩ := id hins
         obtain ⟨Pa, pc, rfl, ⟨_, _, _⟩, _⟩ := id hprs
         obtain ⟨Ra, rc, rfl, ⟨_, _, _⟩, _⟩ := id hres
         obtain ⟨Ca, cc, rfl, ⟨_, _, _⟩, _⟩ := id hat
         rw [zak] at i0
         rw [zab] at i2
         have HIr := q_ hir
         have HPr := q_ hprs
         have HRe := q_ hres
         have HCt := q_ hat
         have HE1 := q_ (heap_alloc_new wr (.cells #[.string x.id, .slice Ia x.ins.length ic, .slice Pa x.prs.length pc, .slice Ra x.res.length rc, .slice Ca x.ctx.length cc] 41))
         have HX1 := q_ (HX.out.alloc (.cells #[.string x.id, .slice Ia x.ins.length ic, .slice Pa x.prs.length pc, .slice Ra x.res.length rc, .slice Ca x.ctx.length cc] 41))
         have HB1 := q_ ((heap_alloc_old wr (.cells #[.string x.id, .slice Ia x.ins.length ic, .slice Pa x.prs.length pc, .slice Ra x.res.length rc, .slice Ca x.ctx.length cc] 41) (zad HB.out)).trans HB.out)
         have HDp := q_ (show (Ty.mk 8 ByteArray.empty [] x.ctx).dep ≤ 1000000 by have := (HSz.out.eachA j x hx).1; omega)
         have HCx := q_ (show CellsAt wr b (o + j * 5) [.string x.id, .slice Ia x.ins.length ic, .slice Pa x.prs.length pc, .slice Ra x.res.length rc, .slice Ca x.ctx.length cc] from fun i v hi => HX.out.cell (hcx i v hi))
         clear hx hcx hrow hSb hnm hins hat hprs hres hir
         go_wp2_with (first | refine zac rfl 41 _ rfl b (o + j * 5) rfl Tryz.aggAt Tryz.sizeAt rfl HCx.out ?_)
         clear cw HCx
         go_loopw [12] (fun i' wq => ∃ k : Nat, k ≤ x.ins.length ∧ i' = .int .i64 k ∧ Hid (Ext w wq) ∧ Hid (wq.heap[w.heap.size]? = some (.cells #[.slice A1 s.types.length c1, .slice (some ⟨b, o, none⟩) s.acts.length c2] 25 (0, 0))) ∧ Hid (wq.heap[wr.heap.size]? = some (.cells #[.string x.id, .slice Ia x.ins.length ic, .slice Pa x.prs.length pc, .slice Ra x.res.length rc, .slice Ca x.ctx.length cc] 41 (0, 0))) ∧ Hid (∀ (i : Nat) (p : ByteArray), i < k → x.ins[i]? = some p → zbi s.acts p ≠ none)) (fun i' _ => x.ins.length - (intOf i').toNat)
         case atStart => exact ⟨0, Nat.zero_le _, rfl, HX1, HB1, HE1, q_ fun _ _ h => by omega⟩
         case round =>
          rename World => wq
          clear HX1 HB1 HE1 HX HB
          obtain ⟨k, hk, rfl, HX1, HB1, HE1, HP⟩ := hrel
          have ck : wq.cell? ⟨wr.heap.size, 1, none⟩ = some (.slice Ia x.ins.length ic) := cell_of_row _ _ 1 _ _ _ HE1.out
          by_cases hkt : k < x.ins.length
          ·obtain ⟨ib, io, eI, hSi, hirow⟩ := HIr.out (by omega)
           subst eI
           obtain ⟨p, hp⟩ : ∃ p, x.ins[k]? = some p := ⟨_, List.getElem?_eq_getElem hkt⟩
           have k0 := zaa (HX1.out.cell (str_cell hirow hp).1)
           have f0 := zaa (show wq.cell? ⟨w.heap.size, 0, none⟩ = some (.slice A1 s.types.length c1) from cell_of_row _ _ 0 _ _ _ HB1.out)
           have f1 := zaa (show wq.cell? ⟨w.heap.size, 1, none⟩ = some (.slice (some ⟨b, o, none⟩) s.acts.length c2) from cell_of_row _ _ 1 _ _ _ HB1.out)
           have g0 := zaa ck
           obtain ⟨q, hq⟩ : ∃ q, pos (zbi s.acts p) = q := ⟨_, rfl⟩
           have KA : Hid (∀ X, Ext wq X → Calls Tryz.prog 19 #[.agg #[.slice A1 s.types.length c1, .slice (some ⟨b, o, none⟩) s.acts.length c2], .string p] X fun e w' => e = .returned (.int .i64 q) ∧ Ext X w') := q_ fun X hX => by
            have h := sacR_ok S s [.slice A1 s.types.length c1, .slice (some ⟨b, o, none⟩) s.acts.length c2] p X (fun b hb => Nat.lt_of_lt_of_le (HS.out b hb) (HX1.out.trans hX).size) (HSs.out.alike (Alike.of_ext (HX1.out.trans hX) HS.out))
            rw [hq] at h
            exact h
           have Hq := q_ hq
           have Hp := q_ hp
           clear hp hq hirow hSi
           by_cases hneg : q < 0
           ·go_wp2_with fail
            refine zae (by kernel_rfl) (by kernel_rfl) ?_
            iterate 6 (go_big_quiet_step (fail))
            go_big_quiet_step ((go_at_call 19; exact zan KA.out _ _))
            iterate 1 (go_big_quiet_step (fail))
            refine wpQuiet_nil ?_
            intro w5 hw5
            have HX2 := q_ (HX1.out.trans hw5)
            clear hw5 k0 f0 f1 g0 ck KA
            go_wp2_with fail
            go_ret
            exact ⟨40, by simp, rfl, HX2.out⟩
           ·go_wp2_with fail
            refine zae (by kernel_rfl) (by kernel_rfl) ?_
            iterate 6 (go_big_quiet_step (fail))
            go_big_quiet_step ((go_at_call 19; exact zan KA.out _ _))
            iterate 1 (go_big_quiet_step (fail))
            refine wpQuiet_nil ?_
            intro w5 hw5
            have HX5 := q_ (HX1.out.trans hw5)
            have HB5 := q_ ((hw5.block _ (zad HB1.out)).trans HB1.out)
            have HE5 := q_ ((hw5.block _ (zad HE1.out)).trans HE1.out)
            have Hneg := q_ hneg
            clear hw5 k0 f0 f1 g0 ck KA
            go_wp2_with fail
            go_roundw
            case rel => exact ⟨k + 1, by omega, by go_num, HX5, HB5, HE5, q_ fun i y hi hy => by
             by_cases hik : i = k
             ·subst hik; rw [Hp.out] at hy; cases hy
              intro hn
              have := Hq.out
              rw [hn] at this
              have h2 := Hneg.out
              simp [pos] at this
              omega
             ·exact HP.out i y (by omega) hy⟩
            case measure => simp [intOf]; omega
          ·have hke : k = x.ins.length := by omega
           subst hke
           have HIp : Hid (∀ p ∈ x.ins, zbi s.acts p ≠ none) := q_ fun p hp => by
            obtain ⟨i, hi⟩ := List.mem_iff_getElem?.1 hp
            exact HP.out i p (List.getElem?_eq_some_iff.1 hi).1 hi
           clear HP
           have f0 : wq.cell? ⟨w.heap.size, 0, none⟩ = some (.slice A1 s.types.length c1) := cell_of_row _ _ 0 _ _ _ HB1.out
           have f1 : wq.cell? ⟨w.heap.size, 1, none⟩ = some (.slice (some ⟨b, o, none⟩) s.acts.length c2) := cell_of_row _ _ 1 _ _ _ HB1.out
           have g0 : wq.cell? ⟨wr.heap.size, 2, none⟩ = some (.slice Pa x.prs.length pc) := cell_of_row _ _ 2 _ _ _ HE1.out
           go_wp2_with fail
           clear f0 f1 g0 ck
           refine (types12_ok S s [.slice A1 s.types.length c1, .slice (some ⟨b, o, none⟩) s.acts.length c2] x.prs _ wq (fun b hb => Nat.lt_of_lt_of_le (HS.out b hb) HX1.out.size) (HSs.out.alike (Alike.of_ext HX1.out HS.out)) (HPr.out.alike (Alike.of_ext HX1.out HS.out))).mono ?_
           rintro e w2 ⟨r1, _, rfl, hx1⟩
           have HX' := q_ (HX1.out.trans hx1)
           have HB' := q_ ((hx1.block _ (zad HB1.out)).trans HB1.out)
           have HE' := q_ ((hx1.block _ (zad HE1.out)).trans HE1.out)
           clear hx1 HX1 HB1 HE1
           have HX1 := HX'
           have HB1 := HB'
           have HE1 := HE'
           clear HX' HB' HE'
           have f0 : w2.cell? ⟨w.heap.size, 0, none⟩ = some (.slice A1 s.types.length c1) := cell_of_row _ _ 0 _ _ _ HB1.out
           have f1 : w2.cell? ⟨w.heap.size, 1, none⟩ = some (.slice (some ⟨b, o, none⟩) s.acts.length c2) := cell_of_row _ _ 1 _ _ _ HB1.out
           have g0 : w2.cell? ⟨wr.heap.size, 3, none⟩ = some (.slice Ra x.res.length rc) := cell_of_row _ _ 3 _ _ _ HE1.out
           go_wp2_with fail
           clear f0 f1 g0
           refine (types12_ok S s [.slice A1 s.types.length c1, .slice (some ⟨b, o, none⟩) s.acts.length c2] x.res _ w2 (fun b hb => Nat.lt_of_lt_of_le (HS.out b hb) HX1.out.size) (HSs.out.alike (Alike.of_ext HX1.out HS.out)) (HRe.out.alike (Alike.of_ext HX1.out HS.out))).mono ?_
           rintro e w3 ⟨r2, _, rfl, hx1⟩
           have HX' := q_ (HX1.out.trans hx1)
           have HB' := q_ ((hx1.block _ (zad HB1.out)).trans HB1.out)
           have HE' := q_ ((hx1.block _ (zad HE1.out)).trans HE1.out)
           clear hx1 HX1 HB1 HE1
           have HX1 := HX'
           have HB1 := HB'
           have HE1 := HE'
           clear HX' HB' HE'
           have f0 : w3.cell? ⟨w.heap.size, 0, none⟩ = some (.slice A1 s.types.length c1) := cell_of_row _ _ 0 _ _ _ HB1.out
           have f1 : w3.cell? ⟨w.heap.size, 1, none⟩ = some (.slice (some ⟨b, o, none⟩) s.acts.length c2) := cell_of_row _ _ 1 _ _ _ HB1.out
           have g0 : w3.cell? ⟨wr.heap.size, 4, none⟩ = some (.slice Ca x.ctx.length cc) := cell_of_row _ _ 4 _ _ _ HE1.out
           go_wp2_with fail
           clear f0 f1 g0
           refine (row12_ok S s [.slice A1 s.types.length c1, .slice (some ⟨b, o, none⟩) s.acts.length c2] x.ctx _ w3 HDp.out (fun b hb => Nat.lt_of_lt_of_le (HS.out b hb) HX1.out.size) (HSs.out.alike (Alike.of_ext HX1.out HS.out)) (HCt.out.alike (Alike.of_ext HX1.out HS.out))).mono ?_
           rintro e w4 ⟨r3, hr3, rfl, hx1⟩
           have HX' := q_ (HX1.out.trans hx1)
           have HB' := q_ ((hx1.block _ (zad HB1.out)).trans HB1.out)
           have HE' := q_ ((hx1.block _ (zad HE1.out)).trans HE1.out)
           clear hx1 HX1 HB1 HE1
           have HX1 := HX'
           have HB1 := HB'
           have HE1 := HE'
           clear HX' HB' HE'
           have HR3 := q_ hr3
           clear hr3
           have HX2 := HX1
           clear HX1
           cases r1 with
           | false =>
            go_wp2_with fail
            go_ret
            exact ⟨40, by simp, rfl, HX2.out⟩
           | true =>
           cases r2 with
           | false =>
            go_wp2_with fail
            go_ret
            exact ⟨40, by simp, rfl, HX2.out⟩
           | true =>
           cases r3 with
           | false =>
            go_wp2_with fail
            go_ret
            exact ⟨40, by simp, rfl, HX2.out⟩
           | true =>
           go_wp2_with fail
           go_roundw
           case rel => exact ⟨j + 1, by omega, by go_num, HX2, HB1, q_ fun i y hi hy => by
            by_cases hij : i = j
            ·subst hij; rw [Hx.out] at hy; cases hy; exact ⟨HR3.out (by trivial), fun p hp => HIp.out p hp⟩
            ·exact HA.out i y (by omega) hy⟩
           case measure => simp [intOf]; omega
        ·have hje : j = s.acts.length := by omega
         subst hje
         have HFd := HA
         clear HA
         go_wp2_with fail
         have HX0 := HX
         have HB0 := HB
         clear HX HB cw
         go_loopw [16] (fun i' wr => ∃ j : Nat, j ≤ s.acts.length ∧ i' = .int .i64 j ∧ Hid (Ext w wr) ∧ Hid (wr.heap[w.heap.size]? = some (.cells #[.slice A1 s.types.length c1, .slice A2 s.acts.length c2] 25 (0, 0))) ∧ Hid (∀ (i : Nat) (x : ActT), i < j → s.acts[i]? = some x → ¬ LeadTo s.acts x.id x.id)) (fun i' _ => s.acts.length - (intOf i').toNat)
         case atStart => exact ⟨0, Nat.zero_le _, rfl, HX0, HB0, q_ fun _ _ h => by omega⟩
         case round =>
          clear HX0 HB0
          obtain ⟨j, hj, rfl, HX, HB, HA⟩ := hrel
          have cw : wr.cell? ⟨w.heap.size, 1, none⟩ = some (.slice A2 s.acts.length c2) := cell_of_row _ _ 1 _ _ _ HB.out
          by_cases hlt : j < s.acts.length
          ·obtain ⟨b, o, eA, hSb, hrow⟩ := HC.out (by omega)
           subst eA
           obtain ⟨x, hx⟩ : ∃ x, s.acts[j]? = some x := ⟨_, List.getElem?_eq_getElem hlt⟩
           obtain ⟨cx, hcx, hxa⟩ := hrow j x hx
           have Hx := q_ hx
           obtain ⟨_, _, _, _, rfl, _⟩ := hxa
           have k0 := zaa (show wr.cell? ⟨b, o + j * 5, none⟩ = some (.string x.id) from HX.out.cell (hcx 0 _ rfl))
           have f0 := zaa (show wr.cell? ⟨w.heap.size, 0, none⟩ = some (.slice A1 s.types.length c1) from cell_of_row _ _ 0 _ _ _ HB.out)
           have f1 := zaa (show wr.cell? ⟨w.heap.size, 1, none⟩ = some (.slice (some ⟨b, o, none⟩) s.acts.length c2) from cell_of_row _ _ 1 _ _ _ HB.out)
           obtain ⟨p, hp⟩ : ∃ p, leadB s.acts x.id x.id = p := ⟨_, rfl⟩
           have Hp := q_ hp
           have KT : Hid (∀ X, Ext wr X → Calls Tryz.prog 23 #[.agg #[.slice A1 s.types.length c1, .slice (some ⟨b, o, none⟩) s.acts.length c2], .bool true, .string x.id, .string x.id] X fun e w' => e = .returned (.bool p) ∧ Ext X w') := q_ fun X hX => by
            have h := leads12_ok S s [.slice A1 s.types.length c1, .slice (some ⟨b, o, none⟩) s.acts.length c2] x.id x.id X HSz.out.acts (fun a ha => by obtain ⟨i, hi⟩ := List.mem_iff_getElem?.1 ha; exact (HSz.out.eachA i a hi).2.1) (fun b hb => Nat.lt_of_lt_of_le (HS.out b hb) (HX.out.trans hX).size) (HSs.out.alike (Alike.of_ext (HX.out.trans hX) HS.out))
            rw [hp] at h
            exact h
           clear hx hcx hrow hSb hp
           go_wp2_with fail
           refine zae (by kernel_rfl) (by kernel_rfl) ?_
           iterate 13 (go_big_quiet_step (fail))
           go_big_quiet_step ((go_at_call 23; exact zan KT.out _ _))
           iterate 1 (go_big_quiet_step (fail))
           refine wpQuiet_nil ?_
           intro w5 hw5
           have HX2 := q_ (HX.out.trans hw5)
           have HB5 := q_ ((hw5.block _ (zad HB.out)).trans HB.out)
           clear hw5 k0 f0 f1 KT cw
           cases p with
           | true =>
            go_wp2_with fail
            go_ret
            exact ⟨21, by simp, rfl, HX2.out⟩
           | false =>
            go_wp2_with fail
            go_roundw
            case rel => exact ⟨j + 1, by omega, by go_num, HX2, HB5, q_ fun i y hi hy => by
             by_cases hij : i = j
             ·subst hij; rw [Hx.out] at hy; cases hy; exact fun h => by have h1 := leadB_iff.2 h; rw [Hp.out] at h1; cases h1
             ·exact HA.out i y (by omega) hy⟩
            case measure => simp [intOf]; omega
          ·have hje : j = s.acts.length := by omega
           subst hje
           have HFf := HA
           clear HA
           go_wp2_with fail
           have HX0 := HX
           have HB0 := HB
           clear HX HB cw
           go_ret
           exact ⟨0, fun _ => ⟨fun t ht => by obtain ⟨i, hi⟩ := List.mem_iff_getElem?.1 ht; exact HFc.out i t (List.getElem?_eq_some_iff.1 hi).1 hi, fun a ha => by obtain ⟨i, hi⟩ := List.mem_iff_getElem?.1 ha; exact (HFd.out i a (List.getElem?_eq_some_iff.1 hi).1 hi).1,
            ⟨fun i a hi => HFb.out i a (List.getElem?_eq_some_iff.1 hi).1 hi, fun a ha => by obtain ⟨i, hi⟩ := List.mem_iff_getElem?.1 ha; exact (HFd.out i a (List.getElem?_eq_some_iff.1 hi).1 hi).2, fun a ha => by obtain ⟨i, hi⟩ := List.mem_iff_getElem?.1 ha; exact HFf.out i a (List.getElem?_eq_some_iff.1 hi).1 hi⟩⟩, rfl, HX0.out⟩
end Go.Proofs.YtbkaffhbhimglaaGreat
