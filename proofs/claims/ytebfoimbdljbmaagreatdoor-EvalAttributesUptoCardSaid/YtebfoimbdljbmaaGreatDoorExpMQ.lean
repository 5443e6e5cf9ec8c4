/-
  Is an expression small enough: what the statements ask first. The conditions: it lies in memory as it should.
-/
import Derived.Test.YtebfoimbdljbmaaGreatDoorExpQ
import Derived.Test.YtebfoimbdljbmaaGreatDoorMeasQ
namespace Go.Proofs.YtebfoimbdljbmaaGreatDoor
open Go.RowKit
open Lib renaming hid → q_
set_option maxRecDepth 100000
set_option maxHeartbeats 1600000
theorem zar : ∀ w, (isAgg 30).run Tryz.prog w = .ok true w := fun _ => by kernel_rfl
theorem zao : ∀ w, (Go.sizeOf 30).run Tryz.prog w = .ok 12 w := fun _ => by kernel_rfl
theorem zcd {w : World} {g : Nat} {pre cs r : List Value} {T : TypeId} (h : w.heap[g]? = some (.cells (pre ++ (cs ++ r)).toArray T (0, 0))) : CellsAt w g pre.length cs := fun j v hj => by
 have h1 := cell_of_row w g (pre.length + j) _ _ _ h
 rw [h1]
 simp only [List.getElem?_toArray]
 rw [List.getElem?_append_right (by omega), show pre.length + j - pre.length = j by omega, List.getElem?_append_left (List.getElem?_eq_some_iff.1 hj).1]
 exact hj
theorem fewX_ok14 (n : Nat) : ∀ (t : Exp) (deep : Nat) (S : Nat → Prop) (w : World) (cs : List Value), SizeOf.sizeOf t ≤ n → deep ≤ 100 → (∀ b, S b → b < w.heap.size) → Exp.At S w t cs →
  Calls Tryz.prog 30 #[.agg cs.toArray, .int .i64 deep] w (SomeBool (fun r => r = true → t.dep + deep ≤ 61) w) := by
 induction n with
 | zero => intro t; cases t; simp
 | succ n ih =>
  intro t deep S w cs hn hd hS h
  obtain ⟨op, v, nm, kids, names⟩ := t
  obtain ⟨k, bo, vn, s, ut, ui, A, l, c, A2, l2, c2, K, cap, N, capn, hcs, _, hv, hk, hnn⟩ := Exp.At.shape h
  obtain rfl : cs = [.int .i64 op, .int .i64 k, .bool bo, .int .i64 vn, .string s, .string ut, .string ui, .slice A l c, .slice A2 l2 c2, .string nm, .slice K kids.length cap, .slice N names.length capn] := hcs
  obtain ⟨_, _, e, ⟨hk0, hk1, hk2⟩, hkr⟩ := hk
  injection e with e1 e2 e3
  subst e1 e3
  obtain ⟨_, _, e, hn0, hn1, hn2, _⟩ := hnn
  injection e with e1 e4 e3
  subst e1 e3
  rw [zaq] at hk0 hn0
  rw [zaj] at hk2 hn2
  have hkr : 0 < kids.length → ∃ b o, K = some ⟨b, o, none⟩ ∧ S b ∧ expR.RowAt S w kids b o := hkr
  have hk0 : kids.length ≤ 1073741824 := hk0
  have hk1 : kids.length ≤ cap := hk1
  have hn0 : names.length ≤ 1073741824 := hn0
  have hn1 : names.length ≤ capn := hn1
  have HV := q_ (show Val.At S w v [.int .i64 k, .bool bo, .int .i64 vn, .string s, .string ut, .string ui, .slice A l c, .slice A2 l2 c2] from hv)
  have HK := q_ hkr
  have HS := q_ hS
  have Hn := q_ hn
  have IH := q_ ih
  clear h hv hkr hS hn ih e2 e4
  by_cases q1 : 20 < kids.length
  ·go_enter Tryz.func30, Tryz.ntmps30
   go_wp2_with fail
   go_ret
   exact ⟨false, by simp, rfl, (Ext.refl w).alloc _⟩
  by_cases q2 : 20 < names.length
  ·go_enter Tryz.func30, Tryz.ntmps30
   go_wp2_with fail
   go_ret
   exact ⟨false, by simp, rfl, (Ext.refl w).alloc _⟩
  by_cases q3 : 60 < deep
  ·go_enter Tryz.func30, Tryz.ntmps30
   go_wp2_with fail
   go_ret
   exact ⟨false, by simp, rfl, (Ext.refl w).alloc _⟩
  go_enter Tryz.func30, Tryz.ntmps30
  go_wp2_with fail
  go_loopw [5] (fun i' wr => ∃ j : Nat, j ≤ kids.length ∧ i' = .int .i64 j ∧ Hid (Ext w wr) ∧ Hid (wr.heap[w.heap.size]? = some (.cells #[.int .i64 op, .int .i64 k, .bool bo, .int .i64 vn, .string s, .string ut, .string ui, .slice A l c, .slice A2 l2 c2, .string nm, .slice K kids.length cap, .slice N names.length capn] 30 (0, 0))) ∧ Hid (∀ i x, i < j → kids[i]? = some x → x.dep ≤ 60 - deep)) (fun i' _ => kids.length - (intOf i').toNat)
  case atStart => exact ⟨0, Nat.zero_le _, rfl, q_ ((Ext.refl w).alloc _), q_ (heap_alloc_new _ _), q_ fun _ _ h => by omega⟩
  case round =>
   obtain ⟨j, hj, rfl, HX, HB, HA⟩ := hrel
   have cw : wr.cell? ⟨w.heap.size, 10, none⟩ = some (.slice K kids.length cap) := cell_of_row _ _ 10 _ _ _ HB.out
   by_cases hlt : j < kids.length
   ·obtain ⟨b, o, eA, hSb, hrow⟩ := HK.out (by omega)
    subst eA
    obtain ⟨x, hx⟩ : ∃ x, kids[j]? = some x := ⟨_, List.getElem?_eq_getElem hlt⟩
    obtain ⟨cx, hcx, hxa⟩ := hrow j x hx
    have hcl : cx.length = 12 := Exp.At.length hxa
    have Hcl := q_ hcl
    have hcx : CellsAt w b (o + j * 12) cx := hcx
    have Hcx := q_ (hcx.alike hSb (Alike.of_ext HX.out HS.out))
    have Hxa := q_ (Exp.At.alike (Alike.of_ext HX.out HS.out) _ _ hxa)
    have Hx := q_ hx
    have Hsz := q_ (show SizeOf.sizeOf x ≤ n by have := Hn.out; have := Exp.size_get hx; simp at *; omega)
    clear hx hxa hcx hrow hSb hcl
    have HC := q_ (IH.out x (deep + 1) S wr cx Hsz.out (by omega) (fun b hb => Nat.lt_of_lt_of_le (HS.out b hb) HX.out.size) Hxa.out)
    go_wp2_with (first | refine zab rfl 30 _ rfl b (o + j * 12) rfl zar zao Hcl.out Hcx.out ?_)
    refine HC.out.mono ?_
    rintro e w' ⟨r, hr, rfl, hx2⟩
    have HX2 := q_ (HX.out.trans hx2)
    have HR := q_ hr
    have HB2 := q_ ((hx2.block _ (zaf HB.out)).trans HB.out)
    clear hx2 hr cw
    cases r with
    | false =>
     go_wp2_with fail
     go_ret
     exact ⟨false, by simp, rfl, HX2.out⟩
    | true =>
     go_wp2_with fail
     go_roundw
     case rel => exact ⟨j + 1, by omega, by go_num, HX2, HB2, q_ fun i y hi hy => by
      by_cases hij : i = j
      ·subst hij; rw [Hx.out] at hy; cases hy
       have := HR.out (by trivial)
       omega
      ·exact HA.out i y (by omega) hy⟩
     case measure => simp [intOf]; omega
   ·have hje : j = kids.length := by omega
    subst hje
    have HDd := q_ (show (Exp.mk op v nm kids names).dep ≤ 60 - deep + 1 from by
     rw [Exp.dep_def]
     have := Exp.deps_le (l := kids) (n := 60 - deep) fun x hx => by
      obtain ⟨i, hi⟩ := List.mem_iff_getElem?.1 hx
      exact HA.out i x (List.getElem?_eq_some_iff.1 hi).1 hi
     exact Nat.succ_le_succ this)
    go_wp2_with fail
    go_ret
    exact ⟨true, fun _ => by have := HDd.out; omega, rfl, HX.out⟩
theorem sizeX_ok14 (n : Nat) : ∀ (t : Exp) (S : Nat → Prop) (w : World) (cs : List Value), SizeOf.sizeOf t ≤ n → (∀ b, S b → b < w.heap.size) → Exp.At S w t cs →
  Calls Tryz.prog 31 #[.agg cs.toArray] w (SomeInt (fun _ => True) w) := by
 induction n with
 | zero => intro t; cases t; simp
 | succ n ih =>
  intro t S w cs hn hS h
  obtain ⟨op, v, nm, kids, names⟩ := t
  obtain ⟨k, bo, vn, s, ut, ui, A, l, c, A2, l2, c2, K, cap, N, capn, hcs, _, hv, hk, hnn⟩ := Exp.At.shape h
  obtain rfl : cs = [.int .i64 op, .int .i64 k, .bool bo, .int .i64 vn, .string s, .string ut, .string ui, .slice A l c, .slice A2 l2 c2, .string nm, .slice K kids.length cap, .slice N names.length capn] := hcs
  obtain ⟨_, _, e, ⟨hk0, hk1, hk2⟩, hkr⟩ := hk
  injection e with e1 e2 e3
  subst e1 e3
  obtain ⟨_, _, e, hn0, hn1, hn2, _⟩ := hnn
  injection e with e1 e4 e3
  subst e1 e3
  rw [zaq] at hk0 hn0
  rw [zaj] at hk2 hn2
  have hkr : 0 < kids.length → ∃ b o, K = some ⟨b, o, none⟩ ∧ S b ∧ expR.RowAt S w kids b o := hkr
  have hk0 : kids.length ≤ 1073741824 := hk0
  have hk1 : kids.length ≤ cap := hk1
  have hn0 : names.length ≤ 1073741824 := hn0
  have hn1 : names.length ≤ capn := hn1
  have HV := q_ (show Val.At S w v [.int .i64 k, .bool bo, .int .i64 vn, .string s, .string ut, .string ui, .slice A l c, .slice A2 l2 c2] from hv)
  have HK := q_ hkr
  have HS := q_ hS
  have Hn := q_ hn
  have IH := q_ ih
  clear h hv hkr hS hn ih e2 e4
  go_enter Tryz.func31, Tryz.ntmps31
  go_wp2_with fail
  go_loopw [3, 4] (fun m i' wr => ∃ (j : Nat) (z : Int), j ≤ kids.length ∧ i' = .int .i64 j ∧ m = .int .i64 z ∧ Hid (Ext w wr) ∧ Hid (wr.heap[w.heap.size]? = some (.cells #[.int .i64 op, .int .i64 k, .bool bo, .int .i64 vn, .string s, .string ut, .string ui, .slice A l c, .slice A2 l2 c2, .string nm, .slice K kids.length cap, .slice N names.length capn] 30 (0, 0)))) (fun _ i' _ => kids.length - (intOf i').toNat)
  case atStart => exact ⟨0, 1, Nat.zero_le _, rfl, rfl, q_ ((Ext.refl w).alloc _), q_ (heap_alloc_new _ _)⟩
  case round =>
   obtain ⟨j, z, hj, rfl, rfl, HX, HB⟩ := hrel
   have cw : wr.cell? ⟨w.heap.size, 10, none⟩ = some (.slice K kids.length cap) := cell_of_row _ _ 10 _ _ _ HB.out
   by_cases hlt : j < kids.length
   ·obtain ⟨b, o, eA, hSb, hrow⟩ := HK.out (by omega)
    subst eA
    obtain ⟨x, hx⟩ : ∃ x, kids[j]? = some x := ⟨_, List.getElem?_eq_getElem hlt⟩
    obtain ⟨cx, hcx, hxa⟩ := hrow j x hx
    have hcl : cx.length = 12 := Exp.At.length hxa
    have Hcl := q_ hcl
    have hcx : CellsAt w b (o + j * 12) cx := hcx
    have Hcx := q_ (hcx.alike hSb (Alike.of_ext HX.out HS.out))
    have Hxa := q_ (Exp.At.alike (Alike.of_ext HX.out HS.out) _ _ hxa)
    have Hx := q_ hx
    have Hsz := q_ (show SizeOf.sizeOf x ≤ n by have := Hn.out; have := Exp.size_get hx; simp at *; omega)
    clear hx hxa hcx hrow hSb hcl
    have HC := q_ (IH.out x S wr cx Hsz.out (fun b hb => Nat.lt_of_lt_of_le (HS.out b hb) HX.out.size) Hxa.out)
    by_cases hz : z < 1000
    ·go_wp2_with (first | refine zab rfl 30 _ rfl b (o + j * 12) rfl zar zao Hcl.out Hcx.out ?_)
     refine HC.out.mono ?_
     rintro e w' ⟨r, _, rfl, hx2⟩
     have HX2 := q_ (HX.out.trans hx2)
     have HB2 := q_ ((hx2.block _ (zaf HB.out)).trans HB.out)
     clear hx2 cw
     go_wp2_with fail
     go_roundw
     case rel => exact ⟨j + 1, _, by omega, by go_num, rfl, HX2, HB2⟩
     case measure => simp [intOf]; omega
    ·go_wp2_with fail
     go_ret
     exact ⟨_, trivial, rfl, HX.out⟩
   ·go_wp2_with fail
    go_ret
    exact ⟨_, trivial, rfl, HX.out⟩
theorem litsX_ok14 (n : Nat) : ∀ (t : Exp) (S : Nat → Prop) (w : World) (cs : List Value), SizeOf.sizeOf t ≤ n → (∀ b, S b → b < w.heap.size) → Exp.At S w t cs →
  Calls Tryz.prog 32 #[.agg cs.toArray] w (SomeBool (fun r => r = true → t.lits 57) w) := by
 induction n with
 | zero => intro t; cases t; simp
 | succ n ih =>
  intro t S w cs hn hS h
  obtain ⟨op, v, nm, kids, names⟩ := t
  obtain ⟨k, bo, vn, s, ut, ui, A, l, c, A2, l2, c2, K, cap, N, capn, hcs, _, hv, hk, hnn⟩ := Exp.At.shape h
  obtain rfl : cs = [.int .i64 op, .int .i64 k, .bool bo, .int .i64 vn, .string s, .string ut, .string ui, .slice A l c, .slice A2 l2 c2, .string nm, .slice K kids.length cap, .slice N names.length capn] := hcs
  obtain ⟨_, _, e, ⟨hk0, hk1, hk2⟩, hkr⟩ := hk
  injection e with e1 e2 e3
  subst e1 e3
  obtain ⟨_, _, e, hn0, hn1, hn2, _⟩ := hnn
  injection e with e1 e4 e3
  subst e1 e3
  rw [zaq] at hk0 hn0
  rw [zaj] at hk2 hn2
  have hkr : 0 < kids.length → ∃ b o, K = some ⟨b, o, none⟩ ∧ S b ∧ expR.RowAt S w kids b o := hkr
  have hk0 : kids.length ≤ 1073741824 := hk0
  have hk1 : kids.length ≤ cap := hk1
  have hn0 : names.length ≤ 1073741824 := hn0
  have hn1 : names.length ≤ capn := hn1
  have HV := q_ (show Val.At S w v [.int .i64 k, .bool bo, .int .i64 vn, .string s, .string ut, .string ui, .slice A l c, .slice A2 l2 c2] from hv)
  have HK := q_ hkr
  have HS := q_ hS
  have Hn := q_ hn
  have IH := q_ ih
  clear h hv hkr hS hn ih e2 e4
  have HX0 := q_ ((Ext.refl w).alloc (.cells #[.int .i64 op, .int .i64 k, .bool bo, .int .i64 vn, .string s, .string ut, .string ui, .slice A l c, .slice A2 l2 c2, .string nm, .slice K kids.length cap, .slice N names.length capn] 30))
  have HB0 := q_ (heap_alloc_new w (.cells #[.int .i64 op, .int .i64 k, .bool bo, .int .i64 vn, .string s, .string ut, .string ui, .slice A l c, .slice A2 l2 c2, .string nm, .slice K kids.length cap, .slice N names.length capn] 30))
  have HCv := q_ (zcd (cs := [.int .i64 k, .bool bo, .int .i64 vn, .string s, .string ut, .string ui, .slice A l c, .slice A2 l2 c2]) (pre := [.int .i64 op]) (r := [.string nm, .slice K kids.length cap, .slice N names.length capn]) HB0.out)
  go_enter Tryz.func32, Tryz.ntmps32
  go_wp2_with (first | refine zab rfl 27 _ rfl w.heap.size 1 rfl zae zaa rfl HCv.out ?_)
  refine (slight_ok14 _ v 0 S _ [_, _, _, _, _, _, _, _] (Nat.le_refl _) (by omega) (fun b hb => Nat.lt_of_lt_of_le (HS.out b hb) HX0.out.size) (HV.out.alike (Alike.of_ext HX0.out HS.out))).mono ?_
  rintro e w1 ⟨r0, hr0, rfl, hx1⟩
  have HX1 := q_ (HX0.out.trans hx1)
  have HB1 := q_ ((hx1.block _ (zaf HB0.out)).trans HB0.out)
  have HR0 := q_ hr0
  clear hx1 hr0 HX0 HB0 HCv
  cases r0 with
  | false =>
   go_wp2_with fail
   go_ret
   exact ⟨false, by simp, rfl, HX1.out⟩
  | true =>
  have HVd := q_ (show v.dep ≤ 57 from by have := HR0.out rfl; omega)
  clear HR0
  go_wp2_with fail
  go_loopw [4] (fun i' wr => ∃ j : Nat, j ≤ kids.length ∧ i' = .int .i64 j ∧ Hid (Ext w wr) ∧ Hid (wr.heap[w.heap.size]? = some (.cells #[.int .i64 op, .int .i64 k, .bool bo, .int .i64 vn, .string s, .string ut, .string ui, .slice A l c, .slice A2 l2 c2, .string nm, .slice K kids.length cap, .slice N names.length capn] 30 (0, 0))) ∧ Hid (∀ i x, i < j → kids[i]? = some x → x.lits 57)) (fun i' _ => kids.length - (intOf i').toNat)
  case atStart => exact ⟨0, Nat.zero_le _, rfl, HX1, HB1, q_ fun _ _ h => by omega⟩
  case round =>
   clear HX1 HB1
   obtain ⟨j, hj, rfl, HX, HB, HA⟩ := hrel
   have cw : wr.cell? ⟨w.heap.size, 10, none⟩ = some (.slice K kids.length cap) := cell_of_row _ _ 10 _ _ _ HB.out
   by_cases hlt : j < kids.length
   ·obtain ⟨b, o, eA, hSb, hrow⟩ := HK.out (by omega)
    subst eA
    obtain ⟨x, hx⟩ : ∃ x, kids[j]? = some x := ⟨_, List.getElem?_eq_getElem hlt⟩
    obtain ⟨cx, hcx, hxa⟩ := hrow j x hx
    have hcl : cx.length = 12 := Exp.At.length hxa
    have Hcl := q_ hcl
    have hcx : CellsAt w b (o + j * 12) cx := hcx
    have Hcx := q_ (hcx.alike hSb (Alike.of_ext HX.out HS.out))
    have Hxa := q_ (Exp.At.alike (Alike.of_ext HX.out HS.out) _ _ hxa)
    have Hx := q_ hx
    have Hsz := q_ (show SizeOf.sizeOf x ≤ n by have := Hn.out; have := Exp.size_get hx; simp at *; omega)
    clear hx hxa hcx hrow hSb hcl
    have HC := q_ (IH.out x S wr cx Hsz.out (fun b hb => Nat.lt_of_lt_of_le (HS.out b hb) HX.out.size) Hxa.out)
    go_wp2_with (first | refine zab rfl 30 _ rfl b (o + j * 12) rfl zar zao Hcl.out Hcx.out ?_)
    refine HC.out.mono ?_
    rintro e w' ⟨r, hr, rfl, hx2⟩
    have HX2 := q_ (HX.out.trans hx2)
    have HR := q_ hr
    have HB2 := q_ ((hx2.block _ (zaf HB.out)).trans HB.out)
    clear hx2 hr cw
    cases r with
    | false =>
     go_wp2_with fail
     go_ret
     exact ⟨false, by simp, rfl, HX2.out⟩
    | true =>
     go_wp2_with fail
     go_roundw
     case rel => exact ⟨j + 1, by omega, by go_num, HX2, HB2, q_ fun i y hi hy => by
      by_cases hij : i = j
      ·subst hij; rw [Hx.out] at hy; cases hy
       exact HR.out (by trivial)
      ·exact HA.out i y (by omega) hy⟩
     case measure => simp [intOf]; omega
   ·have hje : j = kids.length := by omega
    subst hje
    have HL := q_ (show (Exp.mk op v nm kids names).lits 57 from (Exp.lits_def _).2 ⟨HVd.out, fun x hx => by
     obtain ⟨i, hi⟩ := List.mem_iff_getElem?.1 hx
     exact HA.out i x (List.getElem?_eq_some_iff.1 hi).1 hi⟩)
    go_wp2_with fail
    go_ret
    exact ⟨true, fun _ => HL.out, rfl, HX.out⟩
end Go.Proofs.YtebfoimbdljbmaaGreatDoor
