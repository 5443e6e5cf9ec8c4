/-
  Is a value slight: what the statements ask first. The conditions: it lies in memory as it should.
-/
import Derived.Test.YtebfoimbdljbmaaGreatDoorGb
import Derived.Test.YtebfoimbdljbmaaGreatDoorGd
namespace Go.Proofs.YtebfoimbdljbmaaGreatDoor
open Go.RowKit
open Lib renaming hid → q_
set_option maxRecDepth 100000
set_option maxHeartbeats 800000
theorem mass_ok16 (n : Nat) : ∀ (e : Val) (S : Nat → Prop) (w : World) (cs : List Value), SizeOf.sizeOf e ≤ n → (∀ b, S b → b < w.heap.size) → Val.At S w e cs →
  Calls Tryz.prog 48 #[.agg cs.toArray] w (SomeInt (fun _ => True) w) := by
 induction n with
 | zero => intro e; cases e; simp
 | succ n ih =>
  intro e S w cs hn hS h
  cases e with
  | mk k bo i t ut ui items names =>
  unfold Val.At at h
  obtain ⟨A, cap, nv, rfl, _, ⟨hb2, hb4, hb5⟩, hitems, A2, cap2, rfl, hb3⟩ := h
  have Hk := q_ hitems
  have HS := q_ hS
  have Hn := q_ hn
  have IH := q_ ih
  rw [zat] at hb5
  rw [LIM_eq] at hb2
  clear hitems hb3 hS hn ih
  go_enter Tryz.func48, Tryz.ntmps48
  go_wp2_with fail
  go_loopw [3, 4] (fun m i' wr => ∃ (j : Nat) (z : Int), j ≤ items.length ∧ i' = .int .i64 j ∧ m = .int .i64 z ∧ wr.heap[w.heap.size]? = some (.cells #[.int .i64 k, .bool bo, .int .i64 i, .string t, .string ut, .string ui, .slice A items.length cap, .slice A2 names.length cap2] 27 (0, 0)) ∧ Ext w wr)
   (fun _ i' _ => items.length - (intOf i').toNat)
  case atStart => exact ⟨0, 1, Nat.zero_le _, rfl, rfl, heap_alloc_new _ _, (Ext.refl w).alloc _⟩
  case round =>
   obtain ⟨j, z, hk, rfl, rfl, hbox, hext⟩ := hrel
   have c7 := cell_of_row _ _ 6 _ _ _ hbox
   simp at c7
   have HX := q_ hext
   have HB := q_ hbox
   clear hext hbox
   by_cases hlt : j < items.length
   ·obtain ⟨b, o, rfl, hSb, hrow⟩ := Hk.out (by omega)
    obtain ⟨x, hx⟩ : ∃ x, items[j]? = some x := ⟨_, List.getElem?_eq_getElem hlt⟩
    obtain ⟨cs, hcl, hca, hxa⟩ := hrow.get hx
    have Hca := q_ (hca.alike hSb (Alike.of_ext HX.out HS.out))
    have Hxa := q_ (hxa.alike (Alike.of_ext HX.out HS.out))
    have Hx := q_ hx
    have Hcl := q_ hcl
    clear hx hxa hca hrow hcl hSb
    by_cases hz : z < 1000
    ·go_wp2_with (first | refine zaa rfl 27 _ rfl b (o + j * 8) rfl zb4 zbp Hcl.out Hca.out ?_ | (go_at_call 48; refine (IH.out x S _ cs (by have := Hn.out; have := Val.size_get Hx.out; simp at *; omega) (fun b hb => Nat.lt_of_lt_of_le (HS.out b hb) HX.out.size) Hxa.out).mono ?_; rintro e w' ⟨q, _, rfl, hx2⟩; have HX2 := q_ hx2; clear hx2))
     go_roundw
     case rel => exact ⟨j + 1, _, by omega, by go_num, rfl, (HX2.out.block _ (zaf HB.out)).trans HB.out, HX.out.trans HX2.out⟩
     case measure => simp [intOf]; omega
    ·go_wp2_with fail
     go_ret
     exact ⟨_, trivial, rfl, HX.out⟩
   ·go_wp2_with fail
    go_ret
    exact ⟨_, trivial, rfl, HX.out⟩
theorem Val.dep_of {k : Int} {bo : Bool} {i : Int} {t ut ui : ByteArray} {items : List Val} {names : List ByteArray} {d : Nat} (h : ∀ i x, i < items.length → items[i]? = some x → x.dep ≤ d) : (Val.mk k bo i t ut ui items names).dep ≤ d + 1 := by
 have := Val.deps_le (l := items) (n := d) fun x hx => by
  obtain ⟨i, hi⟩ := List.mem_iff_getElem?.1 hx
  exact h i x (List.getElem?_eq_some_iff.1 hi).1 hi
 simp only [Val.dep]
 split <;> omega
theorem slight_ok16 (n : Nat) : ∀ (e : Val) (deep : Nat) (S : Nat → Prop) (w : World) (cs : List Value), SizeOf.sizeOf e ≤ n → deep ≤ 100 → (∀ b, S b → b < w.heap.size) → Val.At S w e cs →
  Calls Tryz.prog 23 #[.agg cs.toArray, .int .i64 deep] w (SomeBool (fun r => r = true → e.dep + deep ≤ 57) w) := by
 induction n with
 | zero => intro e; cases e; simp
 | succ n ih =>
  intro e deep S w cs hn h1 hS h
  cases e with
  | mk k bo i t ut ui items names =>
  unfold Val.At at h
  obtain ⟨A, cap, nv, rfl, _, ⟨hb2, hb4, hb5⟩, hitems, A2, cap2, rfl, hb3⟩ := h
  have Hk := q_ hitems
  have HS := q_ hS
  have Hn := q_ hn
  have IH := q_ ih
  rw [zat] at hb5
  rw [LIM_eq] at hb2
  clear hitems hb3 hS hn ih
  by_cases q1 : 20 < items.length
  ·go_enter Tryz.func23, Tryz.ntmps23
   go_wp2_with fail
   go_ret
   exact ⟨false, by simp, rfl, (Ext.refl w).alloc _⟩
  by_cases q2 : 20 < names.length
  ·go_enter Tryz.func23, Tryz.ntmps23
   go_wp2_with fail
   go_ret
   exact ⟨false, by simp, rfl, (Ext.refl w).alloc _⟩
  by_cases q3 : 55 < deep
  ·go_enter Tryz.func23, Tryz.ntmps23
   go_wp2_with fail
   go_ret
   exact ⟨false, by simp, rfl, (Ext.refl w).alloc _⟩
  ·go_enter Tryz.func23, Tryz.ntmps23
   go_wp2_with fail
   go_loopw [5, 6] (fun n' i' wr => ∃ (j : Nat) (z : Int), j ≤ items.length ∧ i' = .int .i64 j ∧ n' = .int .i64 z ∧ wr.heap[w.heap.size]? = some (.cells #[.int .i64 k, .bool bo, .int .i64 i, .string t, .string ut, .string ui, .slice A items.length cap, .slice A2 names.length cap2] 27 (0, 0)) ∧ Ext w wr ∧
      Hid (∀ i x, i < j → items[i]? = some x → x.dep ≤ 56 - deep)) (fun _ i' _ => items.length - (intOf i').toNat)
   case atStart => exact ⟨0, 0, Nat.zero_le _, rfl, rfl, heap_alloc_new _ _, (Ext.refl w).alloc _, fun _ _ h => by omega⟩
   case round =>
    obtain ⟨j, z, hk, rfl, rfl, hbox, hext, Hall⟩ := hrel
    have c7 := cell_of_row _ _ 6 _ _ _ hbox
    simp at c7
    have HX := q_ hext
    have HB := q_ hbox
    clear hext hbox
    by_cases hlt : j < items.length
    ·obtain ⟨b, o, rfl, hSb, hrow⟩ := Hk.out (by omega)
     obtain ⟨x, hx⟩ : ∃ x, items[j]? = some x := ⟨_, List.getElem?_eq_getElem hlt⟩
     obtain ⟨cs, hcl, hca, hxa⟩ := hrow.get hx
     have Hca := q_ (hca.alike hSb (Alike.of_ext HX.out HS.out))
     have Hxa := q_ (hxa.alike (Alike.of_ext HX.out HS.out))
     have Hx := q_ hx
     have Hcl := q_ hcl
     clear hx hxa hca hrow hcl hSb
     have HC := q_ (IH.out x (deep + 1) S wr cs (by have := Hn.out; have := Val.size_get Hx.out; simp at *; omega) (by omega) (fun b hb => Nat.lt_of_lt_of_le (HS.out b hb) HX.out.size) Hxa.out)
     go_wp2_with (first | refine zaa rfl 27 _ rfl b (o + j * 8) rfl zb4 zbp Hcl.out Hca.out ?_)
     refine HC.out.mono ?_
     rintro e w' ⟨r, hr, rfl, hx2⟩
     have HX2 := q_ hx2
     have HR := q_ hr
     have hB2 := (hx2.block _ (zaf HB.out)).trans HB.out
     have HB2 := q_ hB2
     have c7' := cell_of_row _ _ 6 _ _ _ hB2
     simp at c7'
     have Hca2 := q_ (Hca.out.alike (S := fun b => b < wr.heap.size) (block_lt_of_cell (Hca.out 0 _ (List.getElem?_eq_getElem (by have := Hcl.out; omega)))) (Alike.of_ext hx2 fun b hb => hb))
     have Hxa2 := q_ (Hxa.out.alike (Alike.of_ext hx2 fun b hb => Nat.lt_of_lt_of_le (HS.out b hb) HX.out.size))
     clear hx2 hr hB2
     cases r with
     | false =>
      go_wp2_with fail
      go_ret
      exact ⟨false, by simp, rfl, HX.out.trans HX2.out⟩
     | true =>
      go_wp2_with (first | refine zaa rfl 27 _ rfl b (o + j * 8) rfl zb4 zbp Hcl.out Hca2.out ?_)
      refine (mass_ok16 _ x S _ cs (Nat.le_refl _) (fun b hb => Nat.lt_of_lt_of_le (HS.out b hb) (HX.out.trans HX2.out).size) Hxa2.out).mono ?_
      rintro e w3 ⟨q, _, rfl, hx3⟩
      have HX3 := q_ hx3
      clear hx3 c7 c7'
      go_wp2_with fail
      go_roundw
      case rel => exact ⟨j + 1, _, by omega, by go_num, rfl, (HX3.out.block _ (zaf HB2.out)).trans HB2.out, HX.out.trans (HX2.out.trans HX3.out), fun i y hi hy => by
       by_cases hik : i = j
       ·subst hik; rw [Hx.out] at hy; cases hy
        have := HR.out (by trivial)
        omega
       ·exact Hall.out i y (by omega) hy⟩
      case measure => simp [intOf]; omega
    ·have hje : j = items.length := by omega
     subst hje
     have hd := Val.dep_of (k := k) (bo := bo) (i := i) (t := t) (ut := ut) (ui := ui) (names := names) Hall.out
     have HD := q_ hd
     clear hd
     go_wp2_with fail
     go_ret
     exact ⟨_, fun _ => by have := HD.out; omega, rfl, HX.out⟩
end Go.Proofs.YtebfoimbdljbmaaGreatDoor
