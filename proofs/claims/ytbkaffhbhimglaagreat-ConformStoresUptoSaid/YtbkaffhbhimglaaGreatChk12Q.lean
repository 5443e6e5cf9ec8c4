/-
  The document's check of a schema: its helpers. The conditions: the schema lies in memory as it should.
-/
import Derived.Test.YtbkaffhbhimglaaGreatRefTQ
import Derived.Test.YtbkaffhbhimglaaGreatMeasTQ
import Derived.Test.YtbkaffhbhimglaaGreatBelowQ
import Derived.Test.YtbkaffhbhimglaaGreatLeadQ
import Derived.Test.YtbkaffhbhimglaaGreatGj
namespace Go.Proofs.YtbkaffhbhimglaaGreat
open Go.RowKit
open Lib renaming hid → q_
set_option maxRecDepth 100000
set_option maxHeartbeats 1600000
theorem all_no {α : Type} {l : List α} {p : α → Bool} {i : Nat} {x : α} (hx : l[i]? = some x) (h : p x = false) : l.all p = false := by
 rw [List.all_eq_false]
 exact ⟨x, List.mem_of_getElem? hx, by simp [h]⟩
theorem all_yes {α : Type} {l : List α} {p : α → Bool} (h : ∀ i x, i < l.length → l[i]? = some x → p x = true) : l.all p = true := by
 rw [List.all_eq_true]
 intro x hx
 obtain ⟨i, hi⟩ := List.mem_iff_getElem?.1 hx
 exact h i x (List.getElem?_eq_some_iff.1 hi).1 hi
theorem str_cell {S : Nat → Prop} {w : World} {l : List ByteArray} {b o : Nat} (h : strR.RowAt S w l b o) {k : Nat} {x : ByteArray} (hx : l[k]? = some x) : w.cell? ⟨b, o + k, none⟩ = some (.string x) ∧ x.size ≤ maxLen := by
 obtain ⟨hc, hs⟩ := strs_row.1 h
 exact ⟨hc k (.string x) (by simp [hx]), hs x (List.mem_of_getElem? hx)⟩
theorem str_at {w : World} {b o i : Nat} {x : ByteArray} (h : CellsAt w b (o + i * strR.size) [.string x]) : w.cell? ⟨b, o + i, none⟩ = some (.string x) := by
 have := h 0 _ rfl
 simpa [strR] using this
theorem OwnL.thing {α : Type} {R : Rep α} {T : TypeId} {base : Nat} {W : World} {A : Option Addr} {n c : Nat} {l : List α} (h : OwnL R T base W (.slice A n c) l) (hl : l.length ≤ LIM) {i : Nat} {x : α} (hx : l[i]? = some x) : ∃ b o cs, A = some ⟨b, o, none⟩ ∧ CellsAt W b (o + i * R.size) cs ∧ R.At (fun b => b < W.heap.size) W x cs := by
 obtain ⟨A', c', e, _, hr⟩ := h.rows hl
 injection e with e1 _ e3
 subst e1
 obtain ⟨b, o, rfl, _, hr⟩ := hr (by have := (List.getElem?_eq_some_iff.1 hx).1; omega)
 obtain ⟨cs, h1, h2⟩ := hr i x hx
 exact ⟨b, o, cs, rfl, h1, h2⟩
mutual
def Ty.kno (l : List EntT) : Ty → Bool
 | .mk k n e a => (decide (3 ≤ k) && !(decide (k = 6) && decide (pos (zca l n) < 0))) && (Ty.knos l e && Atr.knos l a)
def Ty.knos (l : List EntT) : List Ty → Bool
 | [] => true
 | t :: r => t.kno l && Ty.knos l r
def Atr.kno1 (l : List EntT) : Atr → Bool
 | .mk _ t _ => t.kno l
def Atr.knos (l : List EntT) : List Atr → Bool
 | [] => true
 | a :: r => a.kno1 l && Atr.knos l r
end
theorem Ty.knos_all (l : List EntT) : ∀ e : List Ty, Ty.knos l e = e.all (Ty.kno l)
 | [] => rfl
 | t :: r => by simp [Ty.knos, Ty.knos_all l r]
theorem Atr.knos_all (l : List EntT) : ∀ e : List Atr, Atr.knos l e = e.all fun a => a.ty.kno l
 | [] => rfl
 | ⟨_, t, _⟩ :: r => by simp [Atr.knos, Atr.knos_all l r, Atr.kno1, Atr.ty]
theorem Ty.kno_mk (l : List EntT) (k : Int) (n : ByteArray) (e : List Ty) (a : List Atr) : (Ty.mk k n e a).kno l = ((decide (3 ≤ k) && !(decide (k = 6) && decide (pos (zca l n) < 0))) && (e.all (Ty.kno l) && a.all fun a => a.ty.kno l)) := by
 simp [Ty.kno, Ty.knos_all, Atr.knos_all]
theorem types12_ok (S : Nat → Prop) (s : Sch) (ss : List Value) (l : List ByteArray) (v : Value) (w : World) (hS : ∀ b, S b → b < w.heap.size) (hs : Sch.At S w s ss) (hl : strR.RowsAt S w l v) :
  Calls Tryz.prog 21 #[.agg ss.toArray, v] w (zcm (fun _ => True) w) := by
 obtain ⟨v1, v2, rfl, h1, h2⟩ := id hs
 obtain ⟨A1, c1, rfl, ⟨ha0, ha1, ha2⟩, har⟩ := id h1
 obtain ⟨A2, c2, rfl, ⟨hb0, hb1, hb2⟩, hbr⟩ := id h2
 rw [zak] at ha0 hb0
 rw [zab] at ha2 hb2
 have HS := q_ hS
 have HSs := q_ hs
 obtain ⟨A, cap, rfl, ⟨hl0, hl1, hl2⟩, hlr⟩ := hl
 rw [zak] at hl0
 rw [zab] at hl2
 have HL := q_ hlr
 clear hlr hS hs h1 h2 har hbr
 go_enter Tryz.func21, Tryz.ntmps21
 go_wp2_with fail
 go_loopw [5] (fun i' wr => ∃ j : Nat, j ≤ l.length ∧ i' = .int .i64 j ∧ Hid (Ext w wr) ∧ Hid (wr.heap[w.heap.size]? = some (.cells #[.slice A1 s.types.length c1, .slice A2 s.acts.length c2] 25 (0, 0)))) (fun i' _ => l.length - (intOf i').toNat)
 case atStart => exact ⟨0, Nat.zero_le _, rfl, q_ ((Ext.refl w).alloc _), q_ (heap_alloc_new _ _)⟩
 case round =>
  obtain ⟨j, hj, rfl, HX, HB⟩ := hrel
  by_cases hlt : j < l.length
  ·obtain ⟨b, o, rfl, hSb, hrow⟩ := HL.out (by omega)
   obtain ⟨x, hx⟩ : ∃ x, l[j]? = some x := ⟨_, List.getElem?_eq_getElem hlt⟩
   have hcx := str_cell hrow hx
   have e0 := zaa (HX.out.cell hcx.1)
   have f0 := zaa (show wr.cell? ⟨w.heap.size, 0, none⟩ = some (.slice A1 s.types.length c1) from cell_of_row _ _ 0 _ _ _ HB.out)
   have f1 := zaa (show wr.cell? ⟨w.heap.size, 1, none⟩ = some (.slice A2 s.acts.length c2) from cell_of_row _ _ 1 _ _ _ HB.out)
   obtain ⟨p, hp⟩ : ∃ p, pos (zca s.types x) = p := ⟨_, rfl⟩
   have KT : Hid (∀ X, Ext wr X → Calls Tryz.prog 18 #[.agg #[.slice A1 s.types.length c1, .slice A2 s.acts.length c2], .string x] X fun e w' => e = .returned (.int .i64 p) ∧ Ext X w') := q_ fun X hX => by
    have h := styR_ok S s [.slice A1 s.types.length c1, .slice A2 s.acts.length c2] x X (fun b hb => Nat.lt_of_lt_of_le (HS.out b hb) (HX.out.trans hX).size) (HSs.out.alike (Alike.of_ext (HX.out.trans hX) HS.out))
    rw [hp] at h
    exact h
   clear hx hcx hrow hSb hp
   by_cases hneg : p < 0
   all_goals
    go_wp2_with fail
    refine zae (by kernel_rfl) (by kernel_rfl) ?_
    iterate 5 (go_big_quiet_step (fail))
    go_big_quiet_step ((go_at_call 18; exact zan KT.out _ _))
    iterate 1 (go_big_quiet_step (fail))
    refine wpQuiet_nil ?_
    intro w5 hw5
    have HX5 := q_ (HX.out.trans hw5)
    have HB5 := q_ ((hw5.block _ (zad HB.out)).trans HB.out)
    clear hw5 e0 f0 f1 KT
    go_wp2_with fail
    first
     | (
       go_ret
       exact ⟨false, trivial, rfl, HX5.out⟩)
     | (
       go_roundw
       case rel => exact ⟨j + 1, by omega, by go_num, HX5, HB5⟩
       case measure => simp [intOf]; omega)
  ·go_wp2_with fail
   go_ret
   exact ⟨true, trivial, rfl, HX.out⟩
theorem known_ok (s : Sch) (n : Nat) : ∀ (t : Ty) (S : Nat → Prop) (w : World) (ss cs : List Value), SizeOf.sizeOf t ≤ n → (∀ b, S b → b < w.heap.size) → Sch.At S w s ss → Ty.At S w t cs →
  Calls Tryz.prog 45 #[.agg ss.toArray, .agg cs.toArray] w fun e w' => e = .returned (.bool (t.kno s.types)) ∧ Ext w w' := by
 induction n with
 | zero => intro t; cases t; simp
 | succ n ih =>
  intro t S w ss cs hn hS hs h
  obtain ⟨v1, v2, rfl, h1, h2⟩ := id hs
  obtain ⟨A1, c1, rfl, ⟨ha0, ha1, ha2⟩, har⟩ := id h1
  obtain ⟨A2, c2, rfl, ⟨hb0, hb1, hb2⟩, hbr⟩ := id h2
  rw [zak] at ha0 hb0
  rw [zab] at ha2 hb2
  have HS := q_ hS
  have HSs := q_ hs
  clear hs h1 h2 har hbr
  obtain ⟨k, nm, elem, attrs⟩ := t
  obtain ⟨A, cap, B, capb, hct, _, he, ha⟩ := Ty.At.parts h
  obtain rfl : cs = [.int .i64 k, .string nm, .slice A elem.length cap, .slice B attrs.length capb] := hct
  obtain ⟨_, _, e, ⟨he0, he1, he2⟩, her⟩ := he
  injection e with e1 e2 e3
  subst e1 e3
  obtain ⟨_, _, e, ⟨ht0, ht1, ht2⟩, hta⟩ := ha
  injection e with e1 e2 e3
  subst e1 e3
  rw [zak] at he0 ht0
  rw [zab] at he2 ht2
  have her : 0 < elem.length → ∃ b o, A = some ⟨b, o, none⟩ ∧ S b ∧ tyR.RowAt S w elem b o := her
  have hta : 0 < attrs.length → ∃ b o, B = some ⟨b, o, none⟩ ∧ S b ∧ atrR.RowAt S w attrs b o := hta
  have he0 : elem.length ≤ 1073741824 := he0
  have ht0 : attrs.length ≤ 1073741824 := ht0
  have he1 : elem.length ≤ cap := he1
  have ht1 : attrs.length ≤ capb := ht1
  have HE := q_ her
  have HAr := q_ hta
  have Hn := q_ hn
  have IH := q_ ih
  clear h her hta hS hn ih e2
  obtain ⟨q0, q1, qs, qx⟩ := heapT2 w (.cells #[.slice A1 s.types.length c1, .slice A2 s.acts.length c2] 25) (.cells #[.int .i64 k, .string nm, .slice A elem.length cap, .slice B attrs.length capb] 53)
  have HB0 := q_ q0
  have HT0 := q_ q1
  have HX0 := q_ qx
  clear q0 q1 qs qx
  by_cases q1 : k < 3
  ·have HKn : Hid ((Ty.mk k nm elem attrs).kno s.types = false) := q_ (by rw [Ty.kno_mk, show decide (3 ≤ k) = false from by simpa using q1]; rfl)
   generalize (Ty.mk k nm elem attrs).kno s.types = res at *
   go_enter Tryz.func45, Tryz.ntmps45
   go_wp2_with fail
   go_ret
   exact ⟨zal HKn.out.symm, HX0.out⟩
  have hK := Ty.kno_mk s.types k nm elem attrs
  rw [show decide (3 ≤ k) = true from by simp; omega] at hK
  generalize (Ty.mk k nm elem attrs).kno s.types = res at *
  by_cases q6 : k = 6
  ·subst q6
   obtain ⟨p, hp⟩ : ∃ p, pos (zca s.types nm) = p := ⟨_, rfl⟩
   rw [hp] at hK
   have HKn0 := q_ hK
   have Hp := q_ hp
   clear hK hp
   go_enter Tryz.func45, Tryz.ntmps45
   go_wp2_with fail
   refine (styR_ok S s [.slice A1 s.types.length c1, .slice A2 s.acts.length c2] nm _ (fun b hb => Nat.lt_of_lt_of_le (HS.out b hb) HX0.out.size) (HSs.out.alike (Alike.of_ext HX0.out HS.out))).mono ?_
   rintro e w1 ⟨rfl, hx1⟩
   rw [Hp.out]
   have HX1 := q_ (HX0.out.trans hx1)
   have HB1 := q_ ((hx1.block _ (zad HB0.out)).trans HB0.out)
   have HT1 := q_ ((hx1.block _ (zad HT0.out)).trans HT0.out)
   clear hx1 HX0 HB0 HT0 Hp
   have HX0 := HX1
   have HB0 := HB1
   have HT0 := HT1
   clear HX1 HB1 HT1
   by_cases hneg : p < 0
   ·go_wp2_with fail
    go_ret
    exact ⟨zal (by rw [HKn0.out, show decide (p < 0) = true from by simpa using hneg]; rfl), HX0.out⟩
   have HKn : Hid (res = (elem.all (Ty.kno s.types) && attrs.all fun a => a.ty.kno s.types)) := q_ (by rw [HKn0.out, show decide (p < 0) = false from by simp; omega]; rfl)
   clear HKn0
   go_wp2_with fail
   go_loopw [5] (fun i' wr => ∃ j : Nat, j ≤ elem.length ∧ i' = .int .i64 j ∧ Hid (Ext w wr) ∧ Hid (wr.heap[w.heap.size]? = some (.cells #[.slice A1 s.types.length c1, .slice A2 s.acts.length c2] 25 (0, 0))) ∧ Hid (wr.heap[w.heap.size + 1]? = some (.cells #[.int .i64 6, .string nm, .slice A elem.length cap, .slice B attrs.length capb] 53 (0, 0))) ∧ Hid (∀ i x, i < j → elem[i]? = some x → x.kno s.types = true)) (fun i' _ => elem.length - (intOf i').toNat)
   case atStart => exact ⟨0, Nat.zero_le _, rfl, HX0, HB0, HT0, q_ fun _ _ h => by omega⟩
   case round =>
    clear HX0 HB0 HT0
    obtain ⟨j, hj, rfl, HX, HB, HTb, HA⟩ := hrel
    have cw : wr.cell? ⟨w.heap.size + 1, 2, none⟩ = some (.slice A elem.length cap) := cell_of_row _ _ 2 _ _ _ HTb.out
    by_cases hlt : j < elem.length
    ·obtain ⟨b, o, eA, hSb, hrow⟩ := HE.out (by omega)
     subst eA
     obtain ⟨x, hx⟩ : ∃ x, elem[j]? = some x := ⟨_, List.getElem?_eq_getElem hlt⟩
     obtain ⟨cx, hcx, hxa⟩ := hrow j x hx
     obtain ⟨xA, xa, xB, xb, hcs, _⟩ := Ty.At.parts hxa
     subst hcs
     have hxt := hxa
     have hcx := hcx.alike hSb (Alike.of_ext HX.out HS.out)
     have i0 := zaa (show wr.cell? ⟨b, o + j * 4, none⟩ = some (.int .i64 x.kind) from hcx 0 _ rfl)
     have i1 := zaa (show wr.cell? ⟨b, o + j * 4 + 1, none⟩ = some (.string x.name) from hcx 1 _ rfl)
     have i2 := zaa (show wr.cell? ⟨b, o + j * 4 + 2, none⟩ = some (.slice xA x.elem.length xa) from hcx 2 _ rfl)
     have i3 := zaa (show wr.cell? ⟨b, o + j * 4 + 3, none⟩ = some (.slice xB x.attrs.length xb) from hcx 3 _ rfl)
     have f0 := zaa (show wr.cell? ⟨w.heap.size, 0, none⟩ = some (.slice A1 s.types.length c1) from cell_of_row _ _ 0 _ _ _ HB.out)
     have f1 := zaa (show wr.cell? ⟨w.heap.size, 1, none⟩ = some (.slice A2 s.acts.length c2) from cell_of_row _ _ 1 _ _ _ HB.out)
     have f2 := zaa cw
     obtain ⟨rb, hrb⟩ : ∃ rb, x.kno s.types = rb := ⟨_, rfl⟩
     have KV : Hid (∀ X, Ext wr X → Calls Tryz.prog 45 #[.agg #[.slice A1 s.types.length c1, .slice A2 s.acts.length c2], .agg #[.int .i64 x.kind, .string x.name, .slice xA x.elem.length xa, .slice xB x.attrs.length xb]] X fun e w' => e = .returned (.bool rb) ∧ Ext X w') := q_ fun X hX => by
      have hal := Alike.of_ext (HX.out.trans hX) HS.out
      have h := IH.out x S X [.slice A1 s.types.length c1, .slice A2 s.acts.length c2] _ (by have := Hn.out; have := Ty.size_get hx; simp at *; omega) (fun b hb => Nat.lt_of_lt_of_le (HS.out b hb) (HX.out.trans hX).size) (HSs.out.alike hal) (Ty.At.alike hal _ _ hxt)
      rw [hrb] at h
      exact h
     have HRb := q_ hrb
     have Hx := q_ hx
     clear hrow hSb hcx hxa hxt hx hrb
     go_wp2_with fail
     refine zae (by kernel_rfl) (by kernel_rfl) ?_
     iterate 6 (go_big_quiet_step (fail))
     go_big_quiet_step ((go_at_call 45; exact zan KV.out _ _))
     iterate 1 (go_big_quiet_step (fail))
     refine wpQuiet_nil ?_
     intro w5 hw5
     have HX5 := q_ (HX.out.trans hw5)
     have HB5 := q_ ((hw5.block _ (zad HB.out)).trans HB.out)
     have HT5 := q_ ((hw5.block _ (zad HTb.out)).trans HTb.out)
     clear hw5 i0 i1 i2 i3 f0 f1 f2 cw KV
     cases rb with
     | false =>
      go_wp2_with fail
      go_ret
      exact ⟨zal (by rw [HKn.out, all_no (p := Ty.kno s.types) Hx.out HRb.out]; simp), HX5.out⟩
     | true =>
      go_wp2_with fail
      go_roundw
      case rel => exact ⟨j + 1, by omega, by go_num, HX5, HB5, HT5, q_ fun i y hi hy => by
       by_cases hij : i = j
       ·subst hij; rw [Hx.out] at hy; cases hy; exact HRb.out
       ·exact HA.out i y (by omega) hy⟩
      case measure => simp [intOf]; omega
    ·have hje : j = elem.length := by omega
     subst hje
     have HA1 := HA
     go_wp2_with fail
     have HX0 := HX
     have HB0 := HB
     have HT0 := HTb
     clear HA HX HB HTb cw
     go_loopw [7] (fun i' wr => ∃ j : Nat, j ≤ attrs.length ∧ i' = .int .i64 j ∧ Hid (Ext w wr) ∧ Hid (wr.heap[w.heap.size]? = some (.cells #[.slice A1 s.types.length c1, .slice A2 s.acts.length c2] 25 (0, 0))) ∧ Hid (wr.heap[w.heap.size + 1]? = some (.cells #[.int .i64 6, .string nm, .slice A elem.length cap, .slice B attrs.length capb] 53 (0, 0))) ∧ Hid (∀ i x, i < j → attrs[i]? = some x → x.ty.kno s.types = true)) (fun i' _ => attrs.length - (intOf i').toNat)
     case atStart => exact ⟨0, Nat.zero_le _, rfl, HX0, HB0, HT0, q_ fun _ _ h => by omega⟩
     case round =>
      clear HX0 HB0 HT0
      obtain ⟨j, hj, rfl, HX, HB, HTb, HA⟩ := hrel
      have cw : wr.cell? ⟨w.heap.size + 1, 3, none⟩ = some (.slice B attrs.length capb) := cell_of_row _ _ 3 _ _ _ HTb.out
      by_cases hlt : j < attrs.length
      ·obtain ⟨b, o, eA, hSb, hrow⟩ := HAr.out (by omega)
       subst eA
       obtain ⟨x, hx⟩ : ∃ x, attrs[j]? = some x := ⟨_, List.getElem?_eq_getElem hlt⟩
       obtain ⟨cx, hcx, hxa⟩ := hrow j x hx
       obtain ⟨xA, xl, xa, xB, xm, xb, hcs, _, hxt⟩ := Atr.At.shape hxa
       subst hcs
       have hcx := hcx.alike hSb (Alike.of_ext HX.out HS.out)
       have i0 := zaa (show wr.cell? ⟨b, o + j * 6 + 1, none⟩ = some (.int .i64 x.ty.kind) from hcx 1 _ rfl)
       have i1 := zaa (show wr.cell? ⟨b, o + j * 6 + 2, none⟩ = some (.string x.ty.name) from hcx 2 _ rfl)
       have i2 := zaa (show wr.cell? ⟨b, o + j * 6 + 3, none⟩ = some (.slice xA xl xa) from hcx 3 _ rfl)
       have i3 := zaa (show wr.cell? ⟨b, o + j * 6 + 4, none⟩ = some (.slice xB xm xb) from hcx 4 _ rfl)
       have f0 := zaa (show wr.cell? ⟨w.heap.size, 0, none⟩ = some (.slice A1 s.types.length c1) from cell_of_row _ _ 0 _ _ _ HB.out)
       have f1 := zaa (show wr.cell? ⟨w.heap.size, 1, none⟩ = some (.slice A2 s.acts.length c2) from cell_of_row _ _ 1 _ _ _ HB.out)
       have f2 := zaa cw
       obtain ⟨rb, hrb⟩ : ∃ rb, x.ty.kno s.types = rb := ⟨_, rfl⟩
       have KV : Hid (∀ X, Ext wr X → Calls Tryz.prog 45 #[.agg #[.slice A1 s.types.length c1, .slice A2 s.acts.length c2], .agg #[.int .i64 x.ty.kind, .string x.ty.name, .slice xA xl xa, .slice xB xm xb]] X fun e w' => e = .returned (.bool rb) ∧ Ext X w') := q_ fun X hX => by
        have hal := Alike.of_ext (HX.out.trans hX) HS.out
        have h := IH.out x.ty S X [.slice A1 s.types.length c1, .slice A2 s.acts.length c2] _ (by have := Hn.out; have := Atr.size_get hx; simp at *; omega) (fun b hb => Nat.lt_of_lt_of_le (HS.out b hb) (HX.out.trans hX).size) (HSs.out.alike hal) (Ty.At.alike hal _ _ hxt)
        rw [hrb] at h
        exact h
       have HRb := q_ hrb
       have Hx := q_ hx
       clear hrow hSb hcx hxa hxt hx hrb
       go_wp2_with fail
       refine zae (by kernel_rfl) (by kernel_rfl) ?_
       iterate 7 (go_big_quiet_step (fail))
       go_big_quiet_step ((go_at_call 45; exact zan KV.out _ _))
       iterate 1 (go_big_quiet_step (fail))
       refine wpQuiet_nil ?_
       intro w5 hw5
       have HX5 := q_ (HX.out.trans hw5)
       have HB5 := q_ ((hw5.block _ (zad HB.out)).trans HB.out)
       have HT5 := q_ ((hw5.block _ (zad HTb.out)).trans HTb.out)
       clear hw5 i0 i1 i2 i3 f0 f1 f2 cw KV
       cases rb with
       | false =>
        go_wp2_with fail
        go_ret
        exact ⟨zal (by rw [HKn.out, all_no (p := fun a : Atr => a.ty.kno s.types) Hx.out HRb.out]; simp), HX5.out⟩
       | true =>
        go_wp2_with fail
        go_roundw
        case rel => exact ⟨j + 1, by omega, by go_num, HX5, HB5, HT5, q_ fun i y hi hy => by
         by_cases hij : i = j
         ·subst hij; rw [Hx.out] at hy; cases hy; exact HRb.out
         ·exact HA.out i y (by omega) hy⟩
        case measure => simp [intOf]; omega
      ·have hje : j = attrs.length := by omega
       subst hje
       go_wp2_with fail
       go_ret
       exact ⟨zal (by rw [HKn.out, all_yes HA1.out, all_yes HA.out]; rfl), HX.out⟩
  ·have HKn : Hid (res = (elem.all (Ty.kno s.types) && attrs.all fun a => a.ty.kno s.types)) := q_ (by rw [hK, show decide (k = 6) = false from by simpa using q6]; rfl)
   have e6 : (k == 6) = false := by simpa using q6
   clear hK q6
   go_enter Tryz.func45, Tryz.ntmps45
   go_wp2_with fail
   go_loopw [5] (fun i' wr => ∃ j : Nat, j ≤ elem.length ∧ i' = .int .i64 j ∧ Hid (Ext w wr) ∧ Hid (wr.heap[w.heap.size]? = some (.cells #[.slice A1 s.types.length c1, .slice A2 s.acts.length c2] 25 (0, 0))) ∧ Hid (wr.heap[w.heap.size + 1]? = some (.cells #[.int .i64 k, .string nm, .slice A elem.length cap, .slice B attrs.length capb] 53 (0, 0))) ∧ Hid (∀ i x, i < j → elem[i]? = some x → x.kno s.types = true)) (fun i' _ => elem.length - (intOf i').toNat)
   case atStart => exact ⟨0, Nat.zero_le _, rfl, HX0, HB0, HT0, q_ fun _ _ h => by omega⟩
   case round =>
    clear HX0 HB0 HT0
    obtain ⟨j, hj, rfl, HX, HB, HTb, HA⟩ := hrel
    have cw : wr.cell? ⟨w.heap.size + 1, 2, none⟩ = some (.slice A elem.length cap) := cell_of_row _ _ 2 _ _ _ HTb.out
    by_cases hlt : j < elem.length
    ·obtain ⟨b, o, eA, hSb, hrow⟩ := HE.out (by omega)
     subst eA
     obtain ⟨x, hx⟩ : ∃ x, elem[j]? = some x := ⟨_, List.getElem?_eq_getElem hlt⟩
     obtain ⟨cx, hcx, hxa⟩ := hrow j x hx
     obtain ⟨xA, xa, xB, xb, hcs, _⟩ := Ty.At.parts hxa
     subst hcs
     have hxt := hxa
     have hcx := hcx.alike hSb (Alike.of_ext HX.out HS.out)
     have i0 := zaa (show wr.cell? ⟨b, o + j * 4, none⟩ = some (.int .i64 x.kind) from hcx 0 _ rfl)
     have i1 := zaa (show wr.cell? ⟨b, o + j * 4 + 1, none⟩ = some (.string x.name) from hcx 1 _ rfl)
     have i2 := zaa (show wr.cell? ⟨b, o + j * 4 + 2, none⟩ = some (.slice xA x.elem.length xa) from hcx 2 _ rfl)
     have i3 := zaa (show wr.cell? ⟨b, o + j * 4 + 3, none⟩ = some (.slice xB x.attrs.length xb) from hcx 3 _ rfl)
     have f0 := zaa (show wr.cell? ⟨w.heap.size, 0, none⟩ = some (.slice A1 s.types.length c1) from cell_of_row _ _ 0 _ _ _ HB.out)
     have f1 := zaa (show wr.cell? ⟨w.heap.size, 1, none⟩ = some (.slice A2 s.acts.length c2) from cell_of_row _ _ 1 _ _ _ HB.out)
     have f2 := zaa cw
     obtain ⟨rb, hrb⟩ : ∃ rb, x.kno s.types = rb := ⟨_, rfl⟩
     have KV : Hid (∀ X, Ext wr X → Calls Tryz.prog 45 #[.agg #[.slice A1 s.types.length c1, .slice A2 s.acts.length c2], .agg #[.int .i64 x.kind, .string x.name, .slice xA x.elem.length xa, .slice xB x.attrs.length xb]] X fun e w' => e = .returned (.bool rb) ∧ Ext X w') := q_ fun X hX => by
      have hal := Alike.of_ext (HX.out.trans hX) HS.out
      have h := IH.out x S X [.slice A1 s.types.length c1, .slice A2 s.acts.length c2] _ (by have := Hn.out; have := Ty.size_get hx; simp at *; omega) (fun b hb => Nat.lt_of_lt_of_le (HS.out b hb) (HX.out.trans hX).size) (HSs.out.alike hal) (Ty.At.alike hal _ _ hxt)
      rw [hrb] at h
      exact h
     have HRb := q_ hrb
     have Hx := q_ hx
     clear hrow hSb hcx hxa hxt hx hrb
     go_wp2_with fail
     refine zae (by kernel_rfl) (by kernel_rfl) ?_
     iterate 6 (go_big_quiet_step (fail))
     go_big_quiet_step ((go_at_call 45; exact zan KV.out _ _))
     iterate 1 (go_big_quiet_step (fail))
     refine wpQuiet_nil ?_
     intro w5 hw5
     have HX5 := q_ (HX.out.trans hw5)
     have HB5 := q_ ((hw5.block _ (zad HB.out)).trans HB.out)
     have HT5 := q_ ((hw5.block _ (zad HTb.out)).trans HTb.out)
     clear hw5 i0 i1 i2 i3 f0 f1 f2 cw KV
     cases rb with
     | false =>
      go_wp2_with fail
      go_ret
      exact ⟨zal (by rw [HKn.out, all_no (p := Ty.kno s.types) Hx.out HRb.out]; simp), HX5.out⟩
     | true =>
      go_wp2_with fail
      go_roundw
      case rel => exact ⟨j + 1, by omega, by go_num, HX5, HB5, HT5, q_ fun i y hi hy => by
       by_cases hij : i = j
       ·subst hij; rw [Hx.out] at hy; cases hy; exact HRb.out
       ·exact HA.out i y (by omega) hy⟩
      case measure => simp [intOf]; omega
    ·have hje : j = elem.length := by omega
     subst hje
     have HA1 := HA
     go_wp2_with fail
     have HX0 := HX
     have HB0 := HB
     have HT0 := HTb
     clear HA HX HB HTb cw
     go_loopw [7] (fun i' wr => ∃ j : Nat, j ≤ attrs.length ∧ i' = .int .i64 j ∧ Hid (Ext w wr) ∧ Hid (wr.heap[w.heap.size]? = some (.cells #[.slice A1 s.types.length c1, .slice A2 s.acts.length c2] 25 (0, 0))) ∧ Hid (wr.heap[w.heap.size + 1]? = some (.cells #[.int .i64 k, .string nm, .slice A elem.length cap, .slice B attrs.length capb] 53 (0, 0))) ∧ Hid (∀ i x, i < j → attrs[i]? = some x → x.ty.kno s.types = true)) (fun i' _ => attrs.length - (intOf i').toNat)
     case atStart => exact ⟨0, Nat.zero_le _, rfl, HX0, HB0, HT0, q_ fun _ _ h => by omega⟩
     case round =>
      clear HX0 HB0 HT0
      obtain ⟨j, hj, rfl, HX, HB, HTb, HA⟩ := hrel
      have cw : wr.cell? ⟨w.heap.size + 1, 3, none⟩ = some (.slice B attrs.length capb) := cell_of_row _ _ 3 _ _ _ HTb.out
      by_cases hlt : j < attrs.length
      ·obtain ⟨b, o, eA, hSb, hrow⟩ := HAr.out (by omega)
       subst eA
       obtain ⟨x, hx⟩ : ∃ x, attrs[j]? = some x := ⟨_, List.getElem?_eq_getElem hlt⟩
       obtain ⟨cx, hcx, hxa⟩ := hrow j x hx
       obtain ⟨xA, xl, xa, xB, xm, xb, hcs, _, hxt⟩ := Atr.At.shape hxa
       subst hcs
       have hcx := hcx.alike hSb (Alike.of_ext HX.out HS.out)
       have i0 := zaa (show wr.cell? ⟨b, o + j * 6 + 1, none⟩ = some (.int .i64 x.ty.kind) from hcx 1 _ rfl)
       have i1 := zaa (show wr.cell? ⟨b, o + j * 6 + 2, none⟩ = some (.string x.ty.name) from hcx 2 _ rfl)
       have i2 := zaa (show wr.cell? ⟨b, o + j * 6 + 3, none⟩ = some (.slice xA xl xa) from hcx 3 _ rfl)
       have i3 := zaa (show wr.cell? ⟨b, o + j * 6 + 4, none⟩ = some (.slice xB xm xb) from hcx 4 _ rfl)
       have f0 := zaa (show wr.cell? ⟨w.heap.size, 0, none⟩ = some (.slice A1 s.types.length c1) from cell_of_row _ _ 0 _ _ _ HB.out)
       have f1 := zaa (show wr.cell? ⟨w.heap.size, 1, none⟩ = some (.slice A2 s.acts.length c2) from cell_of_row _ _ 1 _ _ _ HB.out)
       have f2 := zaa cw
       obtain ⟨rb, hrb⟩ : ∃ rb, x.ty.kno s.types = rb := ⟨_, rfl⟩
       have KV : Hid (∀ X, Ext wr X → Calls Tryz.prog 45 #[.agg #[.slice A1 s.types.length c1, .slice A2 s.acts.length c2], .agg #[.int .i64 x.ty.kind, .string x.ty.name, .slice xA xl xa, .slice xB xm xb]] X fun e w' => e = .returned (.bool rb) ∧ Ext X w') := q_ fun X hX => by
        have hal := Alike.of_ext (HX.out.trans hX) HS.out
        have h := IH.out x.ty S X [.slice A1 s.types.length c1, .slice A2 s.acts.length c2] _ (by have := Hn.out; have := Atr.size_get hx; simp at *; omega) (fun b hb => Nat.lt_of_lt_of_le (HS.out b hb) (HX.out.trans hX).size) (HSs.out.alike hal) (Ty.At.alike hal _ _ hxt)
        rw [hrb] at h
        exact h
       have HRb := q_ hrb
       have Hx := q_ hx
       clear hrow hSb hcx hxa hxt hx hrb
       go_wp2_with fail
       refine zae (by kernel_rfl) (by kernel_rfl) ?_
       iterate 7 (go_big_quiet_step (fail))
       go_big_quiet_step ((go_at_call 45; exact zan KV.out _ _))
       iterate 1 (go_big_quiet_step (fail))
       refine wpQuiet_nil ?_
       intro w5 hw5
       have HX5 := q_ (HX.out.trans hw5)
       have HB5 := q_ ((hw5.block _ (zad HB.out)).trans HB.out)
       have HT5 := q_ ((hw5.block _ (zad HTb.out)).trans HTb.out)
       clear hw5 i0 i1 i2 i3 f0 f1 f2 cw KV
       cases rb with
       | false =>
        go_wp2_with fail
        go_ret
        exact ⟨zal (by rw [HKn.out, all_no (p := fun a : Atr => a.ty.kno s.types) Hx.out HRb.out]; simp), HX5.out⟩
       | true =>
        go_wp2_with fail
        go_roundw
        case rel => exact ⟨j + 1, by omega, by go_num, HX5, HB5, HT5, q_ fun i y hi hy => by
         by_cases hij : i = j
         ·subst hij; rw [Hx.out] at hy; cases hy; exact HRb.out
         ·exact HA.out i y (by omega) hy⟩
        case measure => simp [intOf]; omega
      ·have hje : j = attrs.length := by omega
       subst hje
       go_wp2_with fail
       go_ret
       exact ⟨zal (by rw [HKn.out, all_yes HA1.out, all_yes HA.out]; rfl), HX.out⟩
theorem box4c {w : World} {g : Nat} {T : TypeId} {a b c d : Value} (h : w.heap[g]? = some (.cells #[a, b, c, d] T (0, 0))) : w.cell? ⟨g, 0, none⟩ = some a ∧ w.cell? ⟨g, 1, none⟩ = some b ∧ w.cell? ⟨g, 2, none⟩ = some c ∧ w.cell? ⟨g, 3, none⟩ = some d :=
 ⟨cell_of_row _ _ 0 _ _ _ h, cell_of_row _ _ 1 _ _ _ h, cell_of_row _ _ 2 _ _ _ h, cell_of_row _ _ 3 _ _ _ h⟩
theorem row12_ok (S : Nat → Prop) (s : Sch) (ss : List Value) (l : List Atr) (v : Value) (w : World) (hd : (Ty.mk 8 ByteArray.empty [] l).dep ≤ 1000000) (hS : ∀ b, S b → b < w.heap.size) (hs : Sch.At S w s ss) (hl : atrR.RowsAt S w l v) :
  Calls Tryz.prog 22 #[.agg ss.toArray, v] w (zcm (fun r => r = true → (Ty.mk 8 ByteArray.empty [] l).ones = true) w) := by
 obtain ⟨v1, v2, rfl, h1, h2⟩ := id hs
 obtain ⟨A1, c1, rfl, ⟨ha0, ha1, ha2⟩, har⟩ := id h1
 obtain ⟨A2, c2, rfl, ⟨hb0, hb1, hb2⟩, hbr⟩ := id h2
 rw [zak] at ha0 hb0
 rw [zab] at ha2 hb2
 have HS := q_ hS
 have HSs := q_ hs
 have HLa := q_ hl
 obtain ⟨A, cap, rfl, ⟨hl0, hl1, hl2⟩, hlr⟩ := hl
 rw [zak] at hl0
 rw [zab] at hl2
 have HD := q_ hd
 have HAt : Hid (∀ X, Ext w X → Ty.At S X (Ty.mk 8 ByteArray.empty [] l) [.int .i64 8, .string ByteArray.empty, .slice none 0 0, .slice A l.length cap]) := q_ fun X hX => Ty.At.of (by unfold I64; omega) (by rw [zab]; decide) (Rep.RowsAt.nil _ _) (HLa.out.alike (Alike.of_ext hX HS.out))
 clear hlr hS hs h1 h2 har hbr hd
 obtain ⟨q0, q1, qs, qx⟩ := heapT2 w (.cells #[.slice A1 s.types.length c1, .slice A2 s.acts.length c2] 25) (.cells #[.int .i64 8, .string ByteArray.empty, .slice none 0 0, .slice A l.length cap] 53)
 have HB0 := q_ q0
 have HT0 := q_ q1
 have HX0 := q_ qx
 clear q0 q1 qs qx
 go_enter Tryz.func22, Tryz.ntmps22
 go_wp2_with fail
 refine (checkT_ok (Ty.mk 8 ByteArray.empty [] l) S _ [_, _, _, _] HD.out (fun b hb => Nat.lt_of_lt_of_le (HS.out b hb) HX0.out.size) (HAt.out _ HX0.out)).mono ?_
 rintro e w1 ⟨z, hz, rfl, hx1⟩
 have HX1 := q_ (HX0.out.trans hx1)
 have HB1 := q_ ((hx1.block _ (zad HB0.out)).trans HB0.out)
 have HT1 := q_ ((hx1.block _ (zad HT0.out)).trans HT0.out)
 have HZ := q_ hz
 clear hx1 hz HB0 HT0
 by_cases h0 : z = 0
 ·subst h0
  have f0 : w1.cell? ⟨w.heap.size, 0, none⟩ = some (.slice A1 s.types.length c1) := cell_of_row _ _ 0 _ _ _ HB1.out
  have f1 : w1.cell? ⟨w.heap.size, 1, none⟩ = some (.slice A2 s.acts.length c2) := cell_of_row _ _ 1 _ _ _ HB1.out
  obtain ⟨t0, t1, t2, t3⟩ := box4c HT1.out
  go_wp2_with fail
  refine (known_ok s _ (Ty.mk 8 ByteArray.empty [] l) S _ [.slice A1 s.types.length c1, .slice A2 s.acts.length c2] [_, _, _, _] (Nat.le_refl _) (fun b hb => Nat.lt_of_lt_of_le (HS.out b hb) HX1.out.size) (HSs.out.alike (Alike.of_ext HX1.out HS.out)) (HAt.out _ HX1.out)).mono ?_
  rintro e w2 ⟨rfl, hx2⟩
  have HX2 := q_ (HX1.out.trans hx2)
  clear hx2 f0 f1 t0 t1 t2 t3
  generalize (Ty.mk 8 ByteArray.empty [] l).kno s.types = kn
  go_wp2_with fail
  go_ret
  exact ⟨_, fun _ => (HZ.out (by trivial)).1, rfl, HX2.out⟩
 ·have e0 : (z == 0) = false := by simpa using h0
  clear h0
  go_wp2_with fail
  go_ret
  exact ⟨false, by simp, rfl, HX1.out⟩
theorem next12_ok (S : Nat → Prop) (s : Sch) (ss : List Value) (nm : ByteArray) (w : World) (hS : ∀ b, S b → b < w.heap.size) (hs : Sch.At S w s ss) :
  ∃ v, strR.RowsAt S w (zc4 s.acts nm) v ∧ ∀ X, Ext w X → Calls Tryz.prog 46 #[.agg ss.toArray, .bool true, .string nm] X fun e w' => e = .returned v ∧ Ext X w' := by
 obtain ⟨v1, v2, rfl, h1, h2⟩ := id hs
 obtain ⟨A1, c1, rfl, ⟨ha0, ha1, ha2⟩, har⟩ := id h1
 obtain ⟨A2, c2, rfl, ⟨hb0, hb1, hb2⟩, hbr⟩ := id h2
 rw [zak] at ha0 hb0
 rw [zab] at ha2 hb2
 have HS := q_ hS
 have HSs := q_ hs
 have HL := q_ hbr
 clear hS hs h1 h2 har hbr
 cases hi : zbi s.acts nm with
 | none =>
  refine ⟨.slice none 0 0, by rw [nextA_none hi]; exact Rep.RowsAt.nil _ _, fun X hX => ?_⟩
  have HI : Hid (pos (zbi s.acts nm) = -1) := q_ (by rw [hi]; rfl)
  have HXX := q_ hX
  clear hi hX
  go_enter Tryz.func46, Tryz.ntmps46
  go_wp2_with fail
  refine (sacR_ok S s [.slice A1 s.types.length c1, .slice A2 s.acts.length c2] nm _ (fun b hb => Nat.lt_of_lt_of_le (HS.out b hb) (HXX.out.trans ((Ext.refl X).alloc _)).size) (HSs.out.alike (Alike.of_ext (HXX.out.trans ((Ext.refl X).alloc _)) HS.out))).mono ?_
  rintro e w1 ⟨rfl, hx1⟩
  rw [HI.out]
  have HX1 := q_ (((Ext.refl X).alloc _).trans hx1)
  clear hx1
  go_wp2_with fail
  go_ret
  exact ⟨rfl, HX1.out⟩
 | some i =>
  obtain ⟨a, ha, _⟩ := zew hi
  have hil := (List.getElem?_eq_some_iff.1 ha).1
  obtain ⟨b, o, rfl, hSb, hrow⟩ := HL.out (by omega)
  obtain ⟨cs, hcs, ⟨u1, u2, u3, u4, rfl, _, hins, _⟩⟩ := hrow i a ha
  obtain ⟨Ia, ic, rfl, _⟩ := id hins
  refine ⟨.slice Ia a.ins.length ic, by rw [nextA_some hi ha]; exact hins, fun X hX => ?_⟩
  have HI : Hid (pos (zbi s.acts nm) = (i : Int)) := q_ (by rw [hi]; rfl)
  have HXX := q_ hX
  have HC := q_ (show w.cell? ⟨b, o + i * 5 + 1, none⟩ = some (.slice Ia a.ins.length ic) from hcs 1 _ rfl)
  clear hi hX ha hSb hrow hcs hins
  go_enter Tryz.func46, Tryz.ntmps46
  go_wp2_with fail
  refine (sacR_ok S s [.slice A1 s.types.length c1, .slice (some ⟨b, o, none⟩) s.acts.length c2] nm _ (fun b hb => Nat.lt_of_lt_of_le (HS.out b hb) (HXX.out.trans ((Ext.refl X).alloc _)).size) (HSs.out.alike (Alike.of_ext (HXX.out.trans ((Ext.refl X).alloc _)) HS.out))).mono ?_
  rintro e w1 ⟨rfl, hx1⟩
  rw [HI.out]
  have HX1 := q_ (((Ext.refl X).alloc _).trans hx1)
  have k0 : w1.cell? ⟨X.heap.size, 1, none⟩ = some (.slice (some ⟨b, o, none⟩) s.acts.length c2) := cell_of_row _ _ 1 _ _ _ ((hx1.block _ (by simp)).trans (heap_alloc_new _ _))
  have k1 : w1.cell? ⟨b, o + i * 5 + 1, none⟩ = some (.slice Ia a.ins.length ic) := (HXX.out.trans HX1.out).cell HC.out
  clear hx1
  go_wp2_with fail
  go_ret
  exact ⟨rfl, HX1.out⟩
end Go.Proofs.YtbkaffhbhimglaaGreat
