/-
  How small, how deep a type is, whether it may be: what the statements and the document ask first. The conditions: it lies in memory as it should.
-/
import Derived.Test.YtbkaffhbhimglaaGreatBelowQ
import Derived.Test.YtbkaffhbhimglaaGreatGd
namespace Go.Proofs.YtbkaffhbhimglaaGreat
open Go.RowKit
open Lib renaming hid → q_
set_option maxRecDepth 100000
set_option maxHeartbeats 1600000
theorem zb9 : ∀ w, (isAgg 53).run Tryz.prog w = .ok true w := fun _ => by kernel_rfl
theorem zbv : ∀ w, (Go.sizeOf 53).run Tryz.prog w = .ok 4 w := fun _ => by kernel_rfl
theorem cells_ty {w : World} {b o : Nat} {a0 a1 a2 a3 a4 a5 : Value} (h : CellsAt w b o [a0, a1, a2, a3, a4, a5]) : CellsAt w b (o + 1) [a1, a2, a3, a4] := fun j v hj => by
 rw [show o + 1 + j = o + (j + 1) by omega]
 refine h (j + 1) v ?_
 match j, hj with
 | 0, hj => exact hj
 | 1, hj => exact hj
 | 2, hj => exact hj
 | 3, hj => exact hj
theorem cells_box {w : World} {g : Nat} {cs : List Value} {T : TypeId} (h : w.heap[g]? = some (.cells cs.toArray T (0, 0))) : CellsAt w g 0 cs := fun j v hj => by
 rw [cell_of_row _ _ _ _ _ _ h, Nat.zero_add]; simpa using hj
theorem Ty.size_get {l : List Ty} {i : Nat} {x : Ty} (h : l[i]? = some x) : SizeOf.sizeOf x < SizeOf.sizeOf l := List.sizeOf_lt_of_mem (List.mem_of_getElem? h)
theorem Ty.deps_mem {x : Ty} : ∀ {l : List Ty}, x ∈ l → x.dep ≤ Ty.deps l
 | y :: r, h => by
  simp only [Ty.deps]
  rcases List.mem_cons.1 h with rfl | h
  ·omega
  ·have := Ty.deps_mem h; omega
theorem Ty.deps_le {n : Nat} : ∀ {l : List Ty}, (∀ x ∈ l, x.dep ≤ n) → Ty.deps l ≤ n
 | [], _ => by simp [Ty.deps]
 | y :: r, h => by
  have := h y (by simp)
  have := Ty.deps_le (l := r) fun x hx => h x (by simp [hx])
  simp only [Ty.deps]; omega
theorem Ty.deps_take_le (l : List Ty) (k : Nat) : Ty.deps (l.take k) ≤ Ty.deps l := Ty.deps_le fun _ hx => Ty.deps_mem (List.mem_of_mem_take hx)
theorem Ty.deps_take_succ : ∀ {l : List Ty} {k : Nat} {x : Ty}, l[k]? = some x → Ty.deps (l.take (k + 1)) = max (Ty.deps (l.take k)) x.dep
 | [], _, _, h => by simp at h
 | y :: r, 0, x, h => by simp at h; subst h; simp [Ty.deps]
 | y :: r, k + 1, x, h => by
  simp only [List.take_succ_cons, Ty.deps]
  rw [Ty.deps_take_succ (l := r) (k := k) (by simpa using h), Nat.max_assoc]
theorem Atr.dep_ty (a : Atr) : a.dep = a.ty.dep := by cases a; rw [Atr.dep]; rfl
theorem Atr.deps_mem {x : Atr} : ∀ {l : List Atr}, x ∈ l → x.ty.dep ≤ Atr.deps l
 | y :: r, h => by
  simp only [Atr.deps, Atr.dep_ty]
  rcases List.mem_cons.1 h with rfl | h
  ·omega
  ·have := Atr.deps_mem h; omega
theorem Atr.deps_le {n : Nat} : ∀ {l : List Atr}, (∀ x ∈ l, x.ty.dep ≤ n) → Atr.deps l ≤ n
 | [], _ => by simp [Atr.deps]
 | y :: r, h => by
  have := h y (by simp)
  have := Atr.deps_le (l := r) fun x hx => h x (by simp [hx])
  simp only [Atr.deps, Atr.dep_ty]; omega
theorem Atr.deps_take_le (l : List Atr) (k : Nat) : Atr.deps (l.take k) ≤ Atr.deps l := Atr.deps_le fun _ hx => Atr.deps_mem (List.mem_of_mem_take hx)
theorem Atr.deps_take_succ : ∀ {l : List Atr} {k : Nat} {x : Atr}, l[k]? = some x → Atr.deps (l.take (k + 1)) = max (Atr.deps (l.take k)) x.ty.dep
 | [], _, _, h => by simp at h
 | y :: r, 0, x, h => by simp at h; subst h; simp [Atr.deps, Atr.dep_ty]
 | y :: r, k + 1, x, h => by
  simp only [List.take_succ_cons, Atr.deps]
  rw [Atr.deps_take_succ (l := r) (k := k) (by simpa using h), Nat.max_assoc]
theorem Ty.dep_of {k : Int} {nm : ByteArray} {elem : List Ty} {attrs : List Atr} {d : Nat} (h1 : ∀ i x, i < elem.length → elem[i]? = some x → x.dep ≤ d) (h2 : ∀ i x, i < attrs.length → attrs[i]? = some x → x.ty.dep ≤ d) : (Ty.mk k nm elem attrs).dep ≤ d + 1 := by
 have a := Ty.deps_le (l := elem) (n := d) fun x hx => by
  obtain ⟨i, hi⟩ := List.mem_iff_getElem?.1 hx
  exact h1 i x (List.getElem?_eq_some_iff.1 hi).1 hi
 have b := Atr.deps_le (l := attrs) (n := d) fun x hx => by
  obtain ⟨i, hi⟩ := List.mem_iff_getElem?.1 hx
  exact h2 i x (List.getElem?_eq_some_iff.1 hi).1 hi
 simp only [Ty.dep]
 omega
theorem onesL_of : ∀ {l : List Ty}, (∀ x ∈ l, x.ones = true) → Ty.onesL l = true
 | [], _ => rfl
 | t :: r, h => by
  simp only [Ty.onesL, Bool.and_eq_true]
  exact ⟨h t (by simp), onesL_of fun x hx => h x (by simp [hx])⟩
theorem atrsL_of : ∀ {l : List Atr}, (∀ x ∈ l, x.ty.ones = true) → Atr.onesL l = true
 | [], _ => rfl
 | .mk n t o :: r, h => by
  simp only [Atr.onesL, Atr.ones1, Bool.and_eq_true]
  exact ⟨h (.mk n t o) (by simp), atrsL_of fun x hx => h x (by simp [hx])⟩
theorem ones_of {k : Int} {nm : ByteArray} {elem : List Ty} {attrs : List Atr} (h0 : k = 7 → elem.length = 1) (h1 : ∀ i x, i < elem.length → elem[i]? = some x → x.ones = true) (h2 : ∀ i x, i < attrs.length → attrs[i]? = some x → x.ty.ones = true) : (Ty.mk k nm elem attrs).ones = true := by
 simp only [Ty.ones, Bool.and_eq_true, Bool.or_eq_true, decide_eq_true_eq, beq_iff_eq]
 refine ⟨?_, onesL_of fun x hx => ?_, atrsL_of fun x hx => ?_⟩
 ·by_cases h : k = 7
  ·exact .inr (h0 h)
  ·exact .inl h
 ·obtain ⟨i, hi⟩ := List.mem_iff_getElem?.1 hx
  exact h1 i x (List.getElem?_eq_some_iff.1 hi).1 hi
 ·obtain ⟨i, hi⟩ := List.mem_iff_getElem?.1 hx
  exact h2 i x (List.getElem?_eq_some_iff.1 hi).1 hi
theorem fewT_ok13 (n : Nat) : ∀ (t : Ty) (deep : Nat) (S : Nat → Prop) (w : World) (cs : List Value), SizeOf.sizeOf t ≤ n → deep ≤ 100 → (∀ b, S b → b < w.heap.size) → Ty.At S w t cs →
  Calls Tryz.prog 15 #[.agg cs.toArray, .int .i64 deep] w (zcm (fun r => r = true → t.dep + deep ≤ 62) w) := by
 induction n with
 | zero => intro t; cases t; simp
 | succ n ih =>
  intro t deep S w cs hn hd hS h
  obtain ⟨k, nm, elem, attrs⟩ := t
  obtain ⟨A, cap, B, capb, hct, _, he, ha⟩ := Ty.At.parts h
  obtain rfl : cs = [.int .i64 k, .string nm, .slice A elem.length cap, .slice B attrs.length capb] := hct
  obtain ⟨_, _, e, ⟨he0, he1, he2⟩, her⟩ := he
  injection e with e1 e2 e3
  subst e1 e3
  obtain ⟨_, _, e, ⟨ha0, ha1, ha2⟩, har⟩ := ha
  injection e with e1 e2 e3
  subst e1 e3
  rw [zak] at he0 ha0
  rw [zab] at he2 ha2
  have her : 0 < elem.length → ∃ b o, A = some ⟨b, o, none⟩ ∧ S b ∧ tyR.RowAt S w elem b o := her
  have har : 0 < attrs.length → ∃ b o, B = some ⟨b, o, none⟩ ∧ S b ∧ atrR.RowAt S w attrs b o := har
  have he0 : elem.length ≤ 1073741824 := he0
  have ha0 : attrs.length ≤ 1073741824 := ha0
  have he1 : elem.length ≤ cap := he1
  have ha1 : attrs.length ≤ capb := ha1
  have HE := q_ her
  have HAr := q_ har
  have HS := q_ hS
  have Hn := q_ hn
  have IH := q_ ih
  clear h her har hS hn ih e2
  by_cases q1 : 10 < elem.length
  ·go_enter Tryz.func15, Tryz.ntmps15
   go_wp2_with fail
   go_ret
   exact ⟨false, by simp, rfl, (Ext.refl w).alloc _⟩
  by_cases q2 : 10 < attrs.length
  ·go_enter Tryz.func15, Tryz.ntmps15
   go_wp2_with fail
   go_ret
   exact ⟨false, by simp, rfl, (Ext.refl w).alloc _⟩
  by_cases q3 : 60 < deep
  ·go_enter Tryz.func15, Tryz.ntmps15
   go_wp2_with fail
   go_ret
   exact ⟨false, by simp, rfl, (Ext.refl w).alloc _⟩
  go_enter Tryz.func15, Tryz.ntmps15
  go_wp2_with fail
  go_loopw [5] (fun i' wr => ∃ j : Nat, j ≤ elem.length ∧ i' = .int .i64 j ∧ Hid (Ext w wr) ∧ Hid (wr.heap[w.heap.size]? = some (.cells #[.int .i64 k, .string nm, .slice A elem.length cap, .slice B attrs.length capb] 53 (0, 0))) ∧ Hid (∀ i x, i < j → elem[i]? = some x → x.dep + deep ≤ 61)) (fun i' _ => elem.length - (intOf i').toNat)
  case atStart => exact ⟨0, Nat.zero_le _, rfl, q_ ((Ext.refl w).alloc _), q_ (heap_alloc_new _ _), q_ fun _ _ h => by omega⟩
  case round =>
   obtain ⟨j, hj, rfl, HX, HB, HA⟩ := hrel
   have c2 : wr.cell? ⟨w.heap.size, 2, none⟩ = some (.slice A elem.length cap) := cell_of_row _ _ 2 _ _ _ HB.out
   by_cases hlt : j < elem.length
   ·obtain ⟨b, o, eA, hSb, hrow⟩ := HE.out (by omega)
    subst eA
    obtain ⟨x, hx⟩ : ∃ x, elem[j]? = some x := ⟨_, List.getElem?_eq_getElem hlt⟩
    obtain ⟨cx, hcx, hxa⟩ := hrow j x hx
    obtain ⟨xA, xa, xB, xb, hcs, _⟩ := Ty.At.parts hxa
    subst hcs
    have hcx : CellsAt w b (o + j * 4) [.int .i64 x.kind, .string x.name, .slice xA x.elem.length xa, .slice xB x.attrs.length xb] := hcx
    have Hcx := q_ (hcx.alike hSb (Alike.of_ext HX.out HS.out))
    have Hxa := q_ (Ty.At.alike (Alike.of_ext HX.out HS.out) _ _ hxa)
    have Hx := q_ hx
    have Hsz := q_ (show SizeOf.sizeOf x ≤ n by have := Hn.out; have := Ty.size_get hx; simp at *; omega)
    clear hx hxa hcx hrow hSb
    have HC := q_ (IH.out x (deep + 1) S wr _ Hsz.out (by omega) (fun b hb => Nat.lt_of_lt_of_le (HS.out b hb) HX.out.size) Hxa.out)
    go_wp2_with (first | refine zac rfl 53 _ rfl b (o + j * 4) rfl zb9 zbv rfl Hcx.out ?_)
    refine HC.out.mono ?_
    rintro e w' ⟨r, hr, rfl, hx2⟩
    have HX2 := q_ (HX.out.trans hx2)
    have HR := q_ hr
    have HB2 := q_ ((hx2.block _ (zad HB.out)).trans HB.out)
    clear hx2 hr c2
    cases r with
    | false =>
     go_wp2_with fail
     go_ret
     exact ⟨false, by simp, rfl, HX2.out⟩
    | true =>
     go_wp2_with fail
     go_roundw
     case rel => exact ⟨j + 1, by omega, by go_num, HX2, HB2, q_ fun i y hi hy => by
      by_cases hik : i = j
      ·subst hik; rw [Hx.out] at hy; cases hy
       have := HR.out (by trivial)
       omega
      ·exact HA.out i y (by omega) hy⟩
     case measure => simp [intOf]; omega
   ·have hje : j = elem.length := by omega
    subst hje
    have HDe := q_ HA.out
    clear HA
    have c3 : wr.cell? ⟨w.heap.size, 3, none⟩ = some (.slice B attrs.length capb) := cell_of_row _ _ 3 _ _ _ HB.out
    go_wp2_with fail
    clear c2 c3
    rename World => v1
    go_loopw [7] (fun i' wr => ∃ j : Nat, j ≤ attrs.length ∧ i' = .int .i64 j ∧ Hid (Ext w wr) ∧ Hid (wr.heap[w.heap.size]? = some (.cells #[.int .i64 k, .string nm, .slice A elem.length cap, .slice B attrs.length capb] 53 (0, 0))) ∧ Hid (∀ i x, i < j → attrs[i]? = some x → x.ty.dep + deep ≤ 61)) (fun i' _ => attrs.length - (intOf i').toNat)
    case atStart => exact ⟨0, Nat.zero_le _, rfl, HX, HB, q_ fun _ _ h => by omega⟩
    case round =>
     clear HX HB
     obtain ⟨j, hj, rfl, HX, HB, HA⟩ := hrel
     have c3 : wr.cell? ⟨w.heap.size, 3, none⟩ = some (.slice B attrs.length capb) := cell_of_row _ _ 3 _ _ _ HB.out
     by_cases hlt : j < attrs.length
     ·obtain ⟨b, o, eB, hSb, hrow⟩ := HAr.out (by omega)
      subst eB
      obtain ⟨x, hx⟩ : ∃ x, attrs[j]? = some x := ⟨_, List.getElem?_eq_getElem hlt⟩
      obtain ⟨cx, hcx, hxa⟩ := hrow j x hx
      obtain ⟨xA, xl, xa, xB, xm, xb, hcs, _, hxt⟩ := Atr.At.shape hxa
      subst hcs
      have hcx : CellsAt w b (o + j * 6) [.string x.name, .int .i64 x.ty.kind, .string x.ty.name, .slice xA xl xa, .slice xB xm xb, .bool x.opt] := hcx
      have hcx' := hcx.alike hSb (Alike.of_ext HX.out HS.out)
      have Hcx := q_ (cells_ty hcx')
      have Hxa := q_ (Ty.At.alike (Alike.of_ext HX.out HS.out) _ _ hxt)
      have Hx := q_ hx
      have Hsz := q_ (show SizeOf.sizeOf x.ty ≤ n by have := Hn.out; have := Atr.size_get hx; simp at *; omega)
      clear hx hxa hxt hcx hcx' hrow hSb
      have HC := q_ (IH.out x.ty (deep + 1) S wr _ Hsz.out (by omega) (fun b hb => Nat.lt_of_lt_of_le (HS.out b hb) HX.out.size) Hxa.out)
      go_wp2_with (first | refine zac rfl 53 _ rfl b (o + j * 6 + 1) rfl zb9 zbv rfl Hcx.out ?_)
      refine HC.out.mono ?_
      rintro e w' ⟨r, hr, rfl, hx2⟩
      have HX2 := q_ (HX.out.trans hx2)
      have HR := q_ hr
      have HB2 := q_ ((hx2.block _ (zad HB.out)).trans HB.out)
      clear hx2 hr c3
      cases r with
      | false =>
       go_wp2_with fail
       go_ret
       exact ⟨false, by simp, rfl, HX2.out⟩
      | true =>
       go_wp2_with fail
       go_roundw
       case rel => exact ⟨j + 1, by omega, by go_num, HX2, HB2, q_ fun i y hi hy => by
        by_cases hik : i = j
        ·subst hik; rw [Hx.out] at hy; cases hy
         have := HR.out (by trivial)
         omega
        ·exact HA.out i y (by omega) hy⟩
       case measure => simp [intOf]; omega
     ·have hje : j = attrs.length := by omega
      subst hje
      have hd := Ty.dep_of (k := k) (nm := nm) (d := 61 - deep) (fun i x hi hx => by have := HDe.out i x hi hx; omega) (fun i x hi hx => by have := HA.out i x hi hx; omega)
      have HD := q_ hd
      clear hd
      go_wp2_with fail
      go_ret
      exact ⟨_, fun _ => by have := HD.out; omega, rfl, HX.out⟩
theorem sizeT_ok13 (n : Nat) : ∀ (t : Ty) (S : Nat → Prop) (w : World) (cs : List Value), SizeOf.sizeOf t ≤ n → (∀ b, S b → b < w.heap.size) → Ty.At S w t cs →
  Calls Tryz.prog 16 #[.agg cs.toArray] w (SomeInt (fun _ => True) w) := by
 induction n with
 | zero => intro t; cases t; simp
 | succ n ih =>
  intro t S w cs hn hS h
  obtain ⟨k, nm, elem, attrs⟩ := t
  obtain ⟨A, cap, B, capb, hct, _, he, ha⟩ := Ty.At.parts h
  obtain rfl : cs = [.int .i64 k, .string nm, .slice A elem.length cap, .slice B attrs.length capb] := hct
  obtain ⟨_, _, e, ⟨he0, he1, he2⟩, her⟩ := he
  injection e with e1 e2 e3
  subst e1 e3
  obtain ⟨_, _, e, ⟨ha0, ha1, ha2⟩, har⟩ := ha
  injection e with e1 e2 e3
  subst e1 e3
  rw [zak] at he0 ha0
  rw [zab] at he2 ha2
  have her : 0 < elem.length → ∃ b o, A = some ⟨b, o, none⟩ ∧ S b ∧ tyR.RowAt S w elem b o := her
  have har : 0 < attrs.length → ∃ b o, B = some ⟨b, o, none⟩ ∧ S b ∧ atrR.RowAt S w attrs b o := har
  have he0 : elem.length ≤ 1073741824 := he0
  have ha0 : attrs.length ≤ 1073741824 := ha0
  have he1 : elem.length ≤ cap := he1
  have ha1 : attrs.length ≤ capb := ha1
  have HE := q_ her
  have HAr := q_ har
  have HS := q_ hS
  have Hn := q_ hn
  have IH := q_ ih
  clear h her har hS hn ih e2
  go_enter Tryz.func16, Tryz.ntmps16
  go_wp2_with fail
  go_loopw [3, 4] (fun n' i' wr => ∃ (j : Nat) (z : Int), j ≤ elem.length ∧ i' = .int .i64 j ∧ n' = .int .i64 z ∧ Hid (Ext w wr) ∧ Hid (wr.heap[w.heap.size]? = some (.cells #[.int .i64 k, .string nm, .slice A elem.length cap, .slice B attrs.length capb] 53 (0, 0)))) (fun _ i' _ => elem.length - (intOf i').toNat)
  case atStart => exact ⟨0, 1, Nat.zero_le _, rfl, rfl, q_ ((Ext.refl w).alloc _), q_ (heap_alloc_new _ _)⟩
  case round =>
   obtain ⟨j, z, hj, rfl, rfl, HX, HB⟩ := hrel
   have c2 : wr.cell? ⟨w.heap.size, 2, none⟩ = some (.slice A elem.length cap) := cell_of_row _ _ 2 _ _ _ HB.out
   have c3 : wr.cell? ⟨w.heap.size, 3, none⟩ = some (.slice B attrs.length capb) := cell_of_row _ _ 3 _ _ _ HB.out
   by_cases hlt : j < elem.length ∧ z < 1000
   ·obtain ⟨hlt, hz⟩ := hlt
    obtain ⟨b, o, eA, hSb, hrow⟩ := HE.out (by omega)
    subst eA
    obtain ⟨x, hx⟩ : ∃ x, elem[j]? = some x := ⟨_, List.getElem?_eq_getElem hlt⟩
    obtain ⟨cx, hcx, hxa⟩ := hrow j x hx
    obtain ⟨xA, xa, xB, xb, hcs, _⟩ := Ty.At.parts hxa
    subst hcs
    have hcx : CellsAt w b (o + j * 4) [.int .i64 x.kind, .string x.name, .slice xA x.elem.length xa, .slice xB x.attrs.length xb] := hcx
    have Hcx := q_ (hcx.alike hSb (Alike.of_ext HX.out HS.out))
    have Hxa := q_ (Ty.At.alike (Alike.of_ext HX.out HS.out) _ _ hxa)
    have Hx := q_ hx
    have Hsz := q_ (show SizeOf.sizeOf x ≤ n by have := Hn.out; have := Ty.size_get hx; simp at *; omega)
    clear hx hxa hcx hrow hSb
    have HC := q_ (IH.out x S wr _ Hsz.out (fun b hb => Nat.lt_of_lt_of_le (HS.out b hb) HX.out.size) Hxa.out)
    clear c3
    go_wp2_with (first | refine zac rfl 53 _ rfl b (o + j * 4) rfl zb9 zbv rfl Hcx.out ?_)
    refine HC.out.mono ?_
    rintro e w' ⟨q, _, rfl, hx2⟩
    have HX2 := q_ (HX.out.trans hx2)
    have HB2 := q_ ((hx2.block _ (zad HB.out)).trans HB.out)
    clear hx2 c2
    go_wp2_with fail
    go_roundw
    case rel => exact ⟨j + 1, _, by omega, by go_num, rfl, HX2, HB2⟩
    case measure => simp [intOf]; omega
   ·rename World => v1
    by_cases hz : j < elem.length
    all_goals
     go_wp2_with fail
     clear c2 c3
     go_loopw [3, 5] (fun n' i' wr => ∃ (j : Nat) (z : Int), j ≤ attrs.length ∧ i' = .int .i64 j ∧ n' = .int .i64 z ∧ Hid (Ext w wr) ∧ Hid (wr.heap[w.heap.size]? = some (.cells #[.int .i64 k, .string nm, .slice A elem.length cap, .slice B attrs.length capb] 53 (0, 0)))) (fun _ i' _ => attrs.length - (intOf i').toNat)
     case atStart => exact ⟨0, z, Nat.zero_le _, rfl, rfl, HX, HB⟩
     case round =>
      clear HX HB hlt hz
      obtain ⟨j, z, hj, rfl, rfl, HX, HB⟩ := hrel
      have c3 : wr.cell? ⟨w.heap.size, 3, none⟩ = some (.slice B attrs.length capb) := cell_of_row _ _ 3 _ _ _ HB.out
      by_cases hlt : j < attrs.length
      ·by_cases hz : z < 1000
       ·obtain ⟨b, o, eB, hSb, hrow⟩ := HAr.out (by omega)
        subst eB
        obtain ⟨x, hx⟩ : ∃ x, attrs[j]? = some x := ⟨_, List.getElem?_eq_getElem hlt⟩
        obtain ⟨cx, hcx, hxa⟩ := hrow j x hx
        obtain ⟨xA, xl, xa, xB, xm, xb, hcs, _, hxt⟩ := Atr.At.shape hxa
        subst hcs
        have hcx : CellsAt w b (o + j * 6) [.string x.name, .int .i64 x.ty.kind, .string x.ty.name, .slice xA xl xa, .slice xB xm xb, .bool x.opt] := hcx
        have hcx' := hcx.alike hSb (Alike.of_ext HX.out HS.out)
        have Hcx := q_ (cells_ty hcx')
        have Hxa := q_ (Ty.At.alike (Alike.of_ext HX.out HS.out) _ _ hxt)
        have Hx := q_ hx
        have Hsz := q_ (show SizeOf.sizeOf x.ty ≤ n by have := Hn.out; have := Atr.size_get hx; simp at *; omega)
        clear hx hxa hxt hcx hcx' hrow hSb
        have HC := q_ (IH.out x.ty S wr _ Hsz.out (fun b hb => Nat.lt_of_lt_of_le (HS.out b hb) HX.out.size) Hxa.out)
        go_wp2_with (first | refine zac rfl 53 _ rfl b (o + j * 6 + 1) rfl zb9 zbv rfl Hcx.out ?_)
        refine HC.out.mono ?_
        rintro e w' ⟨q, _, rfl, hx2⟩
        have HX2 := q_ (HX.out.trans hx2)
        have HB2 := q_ ((hx2.block _ (zad HB.out)).trans HB.out)
        clear hx2 c3
        go_wp2_with fail
        go_roundw
        case rel => exact ⟨j + 1, _, by omega, by go_num, rfl, HX2, HB2⟩
        case measure => simp [intOf]; omega
       ·go_wp2_with fail
        go_ret
        exact ⟨_, trivial, rfl, HX.out⟩
      ·go_wp2_with fail
       go_ret
       exact ⟨_, trivial, rfl, HX.out⟩
theorem depthT_ok (n : Nat) : ∀ (t : Ty) (S : Nat → Prop) (w : World) (cs : List Value), SizeOf.sizeOf t ≤ n → t.dep ≤ 1000000 → (∀ b, S b → b < w.heap.size) → Ty.At S w t cs →
  Calls Tryz.prog 77 #[.agg cs.toArray] w fun e w' => e = .returned (.int .i64 t.dep) ∧ Ext w w' := by
 induction n with
 | zero => intro t; cases t; simp
 | succ n ih =>
  intro t S w cs hn hd hS h
  obtain ⟨k, nm, elem, attrs⟩ := t
  obtain ⟨A, cap, B, capb, hct, _, he, ha⟩ := Ty.At.parts h
  obtain rfl : cs = [.int .i64 k, .string nm, .slice A elem.length cap, .slice B attrs.length capb] := hct
  obtain ⟨_, _, e, ⟨he0, he1, he2⟩, her⟩ := he
  injection e with e1 e2 e3
  subst e1 e3
  obtain ⟨_, _, e, ⟨ha0, ha1, ha2⟩, har⟩ := ha
  injection e with e1 e2 e3
  subst e1 e3
  rw [zak] at he0 ha0
  rw [zab] at he2 ha2
  have her : 0 < elem.length → ∃ b o, A = some ⟨b, o, none⟩ ∧ S b ∧ tyR.RowAt S w elem b o := her
  have har : 0 < attrs.length → ∃ b o, B = some ⟨b, o, none⟩ ∧ S b ∧ atrR.RowAt S w attrs b o := har
  have he0 : elem.length ≤ 1073741824 := he0
  have ha0 : attrs.length ≤ 1073741824 := ha0
  have he1 : elem.length ≤ cap := he1
  have ha1 : attrs.length ≤ capb := ha1
  have HE := q_ her
  have HAr := q_ har
  have HS := q_ hS
  have Hn := q_ hn
  have IH := q_ ih
  clear h her har hS hn ih e2
  have hdep : (Ty.mk k nm elem attrs).dep = max (Ty.deps elem) (Atr.deps attrs) + 1 := by rw [Ty.dep]
  rw [hdep] at hd ⊢
  have hd1 : Ty.deps elem ≤ 1000000 := by omega
  have hd2 : Atr.deps attrs ≤ 1000000 := by omega
  clear hdep hd
  go_enter Tryz.func77, Tryz.ntmps77
  go_wp2_with fail
  go_loopw [3, 4] (fun n' i' wr => ∃ j : Nat, j ≤ elem.length ∧ i' = .int .i64 j ∧ n' = .int .i64 (Ty.deps (elem.take j)) ∧ Hid (Ext w wr) ∧ Hid (wr.heap[w.heap.size]? = some (.cells #[.int .i64 k, .string nm, .slice A elem.length cap, .slice B attrs.length capb] 53 (0, 0)))) (fun _ i' _ => elem.length - (intOf i').toNat)
  case atStart => exact ⟨0, Nat.zero_le _, rfl, rfl, q_ ((Ext.refl w).alloc _), q_ (heap_alloc_new _ _)⟩
  case round =>
   obtain ⟨j, hj, rfl, rfl, HX, HB⟩ := hrel
   have c2 : wr.cell? ⟨w.heap.size, 2, none⟩ = some (.slice A elem.length cap) := cell_of_row _ _ 2 _ _ _ HB.out
   have ht := Ty.deps_take_le elem j
   by_cases hlt : j < elem.length
   ·obtain ⟨b, o, eA, hSb, hrow⟩ := HE.out (by omega)
    subst eA
    obtain ⟨x, hx⟩ : ∃ x, elem[j]? = some x := ⟨_, List.getElem?_eq_getElem hlt⟩
    obtain ⟨cx, hcx, hxa⟩ := hrow j x hx
    obtain ⟨xA, xa, xB, xb, hcs, _⟩ := Ty.At.parts hxa
    subst hcs
    have hcx : CellsAt w b (o + j * 4) [.int .i64 x.kind, .string x.name, .slice xA x.elem.length xa, .slice xB x.attrs.length xb] := hcx
    have Hcx := q_ (hcx.alike hSb (Alike.of_ext HX.out HS.out))
    have Hxa := q_ (Ty.At.alike (Alike.of_ext HX.out HS.out) _ _ hxa)
    have Hx := q_ hx
    have Hsz := q_ (show SizeOf.sizeOf x ≤ n by have := Hn.out; have := Ty.size_get hx; simp at *; omega)
    clear hx hxa hcx hrow hSb
    have hxd : x.dep ≤ 1000000 := by have := Ty.deps_mem (List.mem_of_getElem? Hx.out); omega
    have HTk := q_ (Ty.deps_take_succ Hx.out)
    have HC := q_ (IH.out x S wr _ Hsz.out hxd (fun b hb => Nat.lt_of_lt_of_le (HS.out b hb) HX.out.size) Hxa.out)
    go_wp2_with (first | refine zac rfl 53 _ rfl b (o + j * 4) rfl zb9 zbv rfl Hcx.out ?_)
    refine HC.out.mono ?_
    rintro e w' ⟨rfl, hx2⟩
    have HX2 := q_ (HX.out.trans hx2)
    have HB2 := q_ ((hx2.block _ (zad HB.out)).trans HB.out)
    clear hx2 c2
    by_cases hgt : Ty.deps (elem.take j) < x.dep
    all_goals
     go_wp2_with fail
     go_roundw
     case rel => exact ⟨j + 1, by omega, by go_num, by rw [HTk.out]; congr 1; omega, HX2, HB2⟩
     case measure => simp [intOf]; omega
   ·have hje : j = elem.length := by omega
    subst hje
    rw [List.take_length]
    have c3 : wr.cell? ⟨w.heap.size, 3, none⟩ = some (.slice B attrs.length capb) := cell_of_row _ _ 3 _ _ _ HB.out
    go_wp2_with fail
    clear c2 c3 ht
    rename World => v1
    go_loopw [3, 6] (fun n' i' wr => ∃ j : Nat, j ≤ attrs.length ∧ i' = .int .i64 j ∧ n' = .int .i64 (max (Ty.deps elem) (Atr.deps (attrs.take j)) : Nat) ∧ Hid (Ext w wr) ∧ Hid (wr.heap[w.heap.size]? = some (.cells #[.int .i64 k, .string nm, .slice A elem.length cap, .slice B attrs.length capb] 53 (0, 0)))) (fun _ i' _ => attrs.length - (intOf i').toNat)
    case atStart => exact ⟨0, Nat.zero_le _, rfl, by simp [Atr.deps], HX, HB⟩
    case round =>
     clear HX HB
     obtain ⟨j, hj, rfl, rfl, HX, HB⟩ := hrel
     have c3 : wr.cell? ⟨w.heap.size, 3, none⟩ = some (.slice B attrs.length capb) := cell_of_row _ _ 3 _ _ _ HB.out
     have ht := Atr.deps_take_le attrs j
     obtain ⟨m, hm⟩ : ∃ m, m = max (Ty.deps elem) (Atr.deps (attrs.take j)) := ⟨_, rfl⟩
     rw [← hm]
     have hmle : m ≤ 1000000 := by omega
     have HM := q_ hm
     clear hm ht
     by_cases hlt : j < attrs.length
     ·obtain ⟨b, o, eB, hSb, hrow⟩ := HAr.out (by omega)
      subst eB
      obtain ⟨x, hx⟩ : ∃ x, attrs[j]? = some x := ⟨_, List.getElem?_eq_getElem hlt⟩
      obtain ⟨cx, hcx, hxa⟩ := hrow j x hx
      obtain ⟨xA, xl, xa, xB, xm, xb, hcs, _, hxt⟩ := Atr.At.shape hxa
      subst hcs
      have hcx : CellsAt w b (o + j * 6) [.string x.name, .int .i64 x.ty.kind, .string x.ty.name, .slice xA xl xa, .slice xB xm xb, .bool x.opt] := hcx
      have hcx' := hcx.alike hSb (Alike.of_ext HX.out HS.out)
      have Hcx := q_ (cells_ty hcx')
      have Hxa := q_ (Ty.At.alike (Alike.of_ext HX.out HS.out) _ _ hxt)
      have Hx := q_ hx
      have Hsz := q_ (show SizeOf.sizeOf x.ty ≤ n by have := Hn.out; have := Atr.size_get hx; simp at *; omega)
      clear hx hxa hxt hcx hcx' hrow hSb
      have hxd : x.ty.dep ≤ 1000000 := by have := Atr.deps_mem (List.mem_of_getElem? Hx.out); omega
      have HTk := q_ (Atr.deps_take_succ Hx.out)
      have HC := q_ (IH.out x.ty S wr _ Hsz.out hxd (fun b hb => Nat.lt_of_lt_of_le (HS.out b hb) HX.out.size) Hxa.out)
      go_wp2_with (first | refine zac rfl 53 _ rfl b (o + j * 6 + 1) rfl zb9 zbv rfl Hcx.out ?_)
      refine HC.out.mono ?_
      rintro e w' ⟨rfl, hx2⟩
      have HX2 := q_ (HX.out.trans hx2)
      have HB2 := q_ ((hx2.block _ (zad HB.out)).trans HB.out)
      clear hx2 c3
      by_cases hgt : m < x.ty.dep
      all_goals
       go_wp2_with fail
       go_roundw
       case rel => exact ⟨j + 1, by omega, by go_num, by rw [HTk.out]; have := HM.out; congr 1; omega, HX2, HB2⟩
       case measure => simp [intOf]; omega
     ·have hje : j = attrs.length := by omega
      subst hje
      have HM' : Hid (m = max (Ty.deps elem) (Atr.deps attrs)) := q_ (by rw [HM.out, List.take_length])
      clear HM
      go_wp2_with fail
      go_ret
      exact ⟨zag (by rw [HM'.out]; omega), HX.out⟩
theorem mayT_ok (n : Nat) : ∀ (t : Ty) (S : Nat → Prop) (w : World) (cs : List Value), SizeOf.sizeOf t ≤ n → (∀ b, S b → b < w.heap.size) → Ty.At S w t cs →
  Calls Tryz.prog 78 #[.agg cs.toArray] w (zcm (fun r => r = true → t.ones = true) w) := by
 induction n with
 | zero => intro t; cases t; simp
 | succ n ih =>
  intro t S w cs hn hS h
  obtain ⟨k, nm, elem, attrs⟩ := t
  obtain ⟨A, cap, B, capb, hct, _, he, ha⟩ := Ty.At.parts h
  obtain rfl : cs = [.int .i64 k, .string nm, .slice A elem.length cap, .slice B attrs.length capb] := hct
  obtain ⟨_, _, e, ⟨he0, he1, he2⟩, her⟩ := he
  injection e with e1 e2 e3
  subst e1 e3
  obtain ⟨_, _, e, ⟨ha0, ha1, ha2⟩, har⟩ := ha
  injection e with e1 e2 e3
  subst e1 e3
  rw [zak] at he0 ha0
  rw [zab] at he2 ha2
  have her : 0 < elem.length → ∃ b o, A = some ⟨b, o, none⟩ ∧ S b ∧ tyR.RowAt S w elem b o := her
  have har : 0 < attrs.length → ∃ b o, B = some ⟨b, o, none⟩ ∧ S b ∧ atrR.RowAt S w attrs b o := har
  have he0 : elem.length ≤ 1073741824 := he0
  have ha0 : attrs.length ≤ 1073741824 := ha0
  have he1 : elem.length ≤ cap := he1
  have ha1 : attrs.length ≤ capb := ha1
  have HE := q_ her
  have HAr := q_ har
  have HS := q_ hS
  have Hn := q_ hn
  have IH := q_ ih
  clear h her har hS hn ih e2
  have no : ∀ r : Bool, r = false → (r = true → (Ty.mk k nm elem attrs).ones = true) := fun r h h' => by rw [h] at h'; cases h'
  by_cases q1 : k < 0
  ·go_enter Tryz.func78, Tryz.ntmps78
   go_wp2_with fail
   go_ret
   exact ⟨false, no _ rfl, rfl, (Ext.refl w).alloc _⟩
  by_cases q2 : 8 < k
  ·go_enter Tryz.func78, Tryz.ntmps78
   go_wp2_with fail
   go_ret
   exact ⟨false, no _ rfl, rfl, (Ext.refl w).alloc _⟩
  by_cases q3 : k = 7 ∧ elem.length ≠ 1
  ·obtain ⟨rfl, q3⟩ := q3
   have e1 : ((elem.length : Int) != 1) = true := by simp; omega
   clear q3
   go_enter Tryz.func78, Tryz.ntmps78
   go_wp2_with fail
   go_ret
   exact ⟨false, no _ rfl, rfl, (Ext.refl w).alloc _⟩
  have HO : Hid (k = 7 → elem.length = 1) := q_ fun h => Decidable.byContradiction fun h' => q3 ⟨h, h'⟩
  have hway : (∃ _ : k = 7, ((elem.length : Int) != 1) = false) ∨ (k == 7) = false := by
   by_cases h : k = 7
   ·exact .inl ⟨h, by rw [HO.out h]; rfl⟩
   ·exact .inr (by simpa using h)
  clear q3
  go_enter Tryz.func78, Tryz.ntmps78
  rcases hway with ⟨h7, h1⟩ | h7
  all_goals
   try (subst h7)
   go_wp2_with fail
   go_loopw [3] (fun i' wr => ∃ j : Nat, j ≤ elem.length ∧ i' = .int .i64 j ∧ Hid (Ext w wr) ∧ Hid (wr.heap[w.heap.size]? = some (.cells #[.int .i64 _, .string nm, .slice A elem.length cap, .slice B attrs.length capb] 53 (0, 0))) ∧ Hid (∀ i x, i < j → elem[i]? = some x → x.ones = true)) (fun i' _ => elem.length - (intOf i').toNat)
   case atStart => exact ⟨0, Nat.zero_le _, rfl, q_ ((Ext.refl w).alloc _), q_ (heap_alloc_new _ _), q_ fun _ _ h => by omega⟩
   case round =>
    obtain ⟨j, hj, rfl, HX, HB, HA⟩ := hrel
    have c2 : wr.cell? ⟨w.heap.size, 2, none⟩ = some (.slice A elem.length cap) := cell_of_row _ _ 2 _ _ _ HB.out
    by_cases hlt : j < elem.length
    ·obtain ⟨b, o, eA, hSb, hrow⟩ := HE.out (by omega)
     subst eA
     obtain ⟨x, hx⟩ : ∃ x, elem[j]? = some x := ⟨_, List.getElem?_eq_getElem hlt⟩
     obtain ⟨cx, hcx, hxa⟩ := hrow j x hx
     obtain ⟨xA, xa, xB, xb, hcs, _⟩ := Ty.At.parts hxa
     subst hcs
     have hcx : CellsAt w b (o + j * 4) [.int .i64 x.kind, .string x.name, .slice xA x.elem.length xa, .slice xB x.attrs.length xb] := hcx
     have Hcx := q_ (hcx.alike hSb (Alike.of_ext HX.out HS.out))
     have Hxa := q_ (Ty.At.alike (Alike.of_ext HX.out HS.out) _ _ hxa)
     have Hx := q_ hx
     have Hsz := q_ (show SizeOf.sizeOf x ≤ n by have := Hn.out; have := Ty.size_get hx; simp at *; omega)
     clear hx hxa hcx hrow hSb
     have HC := q_ (IH.out x S wr _ Hsz.out (fun b hb => Nat.lt_of_lt_of_le (HS.out b hb) HX.out.size) Hxa.out)
     go_wp2_with (first | refine zac rfl 53 _ rfl b (o + j * 4) rfl zb9 zbv rfl Hcx.out ?_)
     refine HC.out.mono ?_
     rintro e w' ⟨r, hr, rfl, hx2⟩
     have HX2 := q_ (HX.out.trans hx2)
     have HR := q_ hr
     have HB2 := q_ ((hx2.block _ (zad HB.out)).trans HB.out)
     clear hx2 hr c2
     cases r with
     | false =>
      go_wp2_with fail
      go_ret
      exact ⟨false, no _ rfl, rfl, HX2.out⟩
     | true =>
      go_wp2_with fail
      go_roundw
      case rel => exact ⟨j + 1, by omega, by go_num, HX2, HB2, q_ fun i y hi hy => by
       by_cases hik : i = j
       ·subst hik; rw [Hx.out] at hy; cases hy
        exact HR.out (by trivial)
       ·exact HA.out i y (by omega) hy⟩
      case measure => simp [intOf]; omega
    ·have hje : j = elem.length := by omega
     subst hje
     have HOe := q_ HA.out
     clear HA
     have c3 : wr.cell? ⟨w.heap.size, 3, none⟩ = some (.slice B attrs.length capb) := cell_of_row _ _ 3 _ _ _ HB.out
     go_wp2_with fail
     clear c2 c3
     rename World => v1
     go_loopw [5] (fun i' wr => ∃ j : Nat, j ≤ attrs.length ∧ i' = .int .i64 j ∧ Hid (Ext w wr) ∧ Hid (wr.heap[w.heap.size]? = some (.cells #[.int .i64 _, .string nm, .slice A elem.length cap, .slice B attrs.length capb] 53 (0, 0))) ∧ Hid (∀ i x, i < j → attrs[i]? = some x → x.ty.ones = true)) (fun i' _ => attrs.length - (intOf i').toNat)
     case atStart => exact ⟨0, Nat.zero_le _, rfl, HX, HB, q_ fun _ _ h => by omega⟩
     case round =>
      clear HX HB
      obtain ⟨j, hj, rfl, HX, HB, HA⟩ := hrel
      have c3 : wr.cell? ⟨w.heap.size, 3, none⟩ = some (.slice B attrs.length capb) := cell_of_row _ _ 3 _ _ _ HB.out
      by_cases hlt : j < attrs.length
      ·obtain ⟨b, o, eB, hSb, hrow⟩ := HAr.out (by omega)
       subst eB
       obtain ⟨x, hx⟩ : ∃ x, attrs[j]? = some x := ⟨_, List.getElem?_eq_getElem hlt⟩
       obtain ⟨cx, hcx, hxa⟩ := hrow j x hx
       obtain ⟨xA, xl, xa, xB, xm, xb, hcs, _, hxt⟩ := Atr.At.shape hxa
       subst hcs
       have hcx : CellsAt w b (o + j * 6) [.string x.name, .int .i64 x.ty.kind, .string x.ty.name, .slice xA xl xa, .slice xB xm xb, .bool x.opt] := hcx
       have hcx' := hcx.alike hSb (Alike.of_ext HX.out HS.out)
       have Hcx := q_ (cells_ty hcx')
       have Hxa := q_ (Ty.At.alike (Alike.of_ext HX.out HS.out) _ _ hxt)
       have Hx := q_ hx
       have Hsz := q_ (show SizeOf.sizeOf x.ty ≤ n by have := Hn.out; have := Atr.size_get hx; simp at *; omega)
       clear hx hxa hxt hcx hcx' hrow hSb
       have HC := q_ (IH.out x.ty S wr _ Hsz.out (fun b hb => Nat.lt_of_lt_of_le (HS.out b hb) HX.out.size) Hxa.out)
       go_wp2_with (first | refine zac rfl 53 _ rfl b (o + j * 6 + 1) rfl zb9 zbv rfl Hcx.out ?_)
       refine HC.out.mono ?_
       rintro e w' ⟨r, hr, rfl, hx2⟩
       have HX2 := q_ (HX.out.trans hx2)
       have HR := q_ hr
       have HB2 := q_ ((hx2.block _ (zad HB.out)).trans HB.out)
       clear hx2 hr c3
       have f0 := zaa (show w'.cell? ⟨w.heap.size, 3, none⟩ = some (.slice (some ⟨b, o, none⟩) attrs.length capb) from cell_of_row _ _ 3 _ _ _ HB2.out)
       cases r with
       | false =>
        go_wp2_with fail
        refine zae (by kernel_rfl) (by kernel_rfl) ?_
        iterate 23 (go_big_quiet_step (fail))
        refine wpQuiet_nil ?_
        intro w4 hw4
        have HX4 := q_ (HX2.out.trans hw4)
        clear hw4 f0
        go_wp2_with fail
        go_ret
        exact ⟨false, no _ rfl, rfl, HX4.out⟩
       | true =>
        by_cases hj0 : 0 < j
        ·obtain ⟨y, hy⟩ : ∃ y, attrs[j - 1]? = some y := ⟨_, List.getElem?_eq_getElem (by omega)⟩
         obtain ⟨_, _, eB, hSb, hrow⟩ := HAr.out (by omega)
         injection eB with eB
         injection eB with eb eo
         subst eb eo
         obtain ⟨cx, hcx, hxa⟩ := hrow j x Hx.out
         obtain ⟨_, _, _, _, _, _, hcs, hnx, _⟩ := Atr.At.shape hxa
         subst hcs
         obtain ⟨cy, hcy, hya⟩ := hrow (j - 1) y hy
         obtain ⟨_, _, _, _, _, _, hcs, hny, _⟩ := Atr.At.shape hya
         subst hcs
         have HNx := q_ hnx
         have HNy := q_ hny
         have f1 := zaa (show w'.cell? ⟨b, o + j * 6, none⟩ = some (.string x.name) from (hcx.alike hSb (Alike.of_ext HX2.out HS.out)) 0 _ rfl)
         have f2 := zaa (show w'.cell? ⟨b, o + (j - 1) * 6, none⟩ = some (.string y.name) from (hcy.alike hSb (Alike.of_ext HX2.out HS.out)) 0 _ rfl)
         have KT : Hid (∀ X, Ext w' X → Calls Tryz.prog 91 #[.string y.name, .string x.name] X fun e w'' => e = .returned (.int .i64 (cmpS y.name x.name)) ∧ Ext X w'') := q_ fun X _ => zc9 _ _ X HNy.out HNx.out
         obtain ⟨z, hz⟩ : ∃ z, cmpS y.name x.name = z := ⟨_, rfl⟩
         rw [hz] at KT
         have s0 : IntKind.i64.wrap ((j : Int) - 1) = ((j - 1 : Nat) : Int) := by rw [show (j : Int) - 1 = ((j - 1 : Nat) : Int) by omega]; exact IntWalk.i64_in _ (by omega)
         have s1 : ((j - 1 : Nat) : Int).toNat = j - 1 := by omega
         clear hcx hxa hcy hya hrow hSb hz hy hnx hny
         by_cases hge : 0 ≤ z
         ·have eg : decide (0 ≤ z) = true := decide_eq_true hge
          go_wp2_with fail
          refine zae (by kernel_rfl) (by kernel_rfl) ?_
          iterate 19 (go_big_quiet_step (fail))
          go_big_quiet_step ((go_at_call 91; exact zan KT.out _ _))
          iterate 3 (go_big_quiet_step (fail))
          refine wpQuiet_nil ?_
          intro w4 hw4
          have HX4 := q_ (HX2.out.trans hw4)
          clear hw4 f0 f1 f2 s0 s1
          go_wp2_with fail
          go_ret
          exact ⟨false, no _ rfl, rfl, HX4.out⟩
         ·have eg : decide (0 ≤ z) = false := decide_eq_false hge
          go_wp2_with fail
          refine zae (by kernel_rfl) (by kernel_rfl) ?_
          iterate 19 (go_big_quiet_step (fail))
          go_big_quiet_step ((go_at_call 91; exact zan KT.out _ _))
          iterate 3 (go_big_quiet_step (fail))
          refine wpQuiet_nil ?_
          intro w4 hw4
          have HX4 := q_ (HX2.out.trans hw4)
          have HB4 := q_ ((hw4.block _ (zad HB2.out)).trans HB2.out)
          clear hw4 f0 f1 f2 s0 s1
          go_wp2_with fail
          go_roundw
          case rel => exact ⟨j + 1, by omega, by go_num, HX4, HB4, q_ fun i y hi hy => by
           by_cases hik : i = j
           ·subst hik; rw [Hx.out] at hy; cases hy
            exact HR.out (by trivial)
           ·exact HA.out i y (by omega) hy⟩
          case measure => simp [intOf]; omega
        ·have hj1 : j = 0 := by omega
         subst hj1
         go_wp2_with fail
         refine zae (by kernel_rfl) (by kernel_rfl) ?_
         iterate 23 (go_big_quiet_step (fail))
         refine wpQuiet_nil ?_
         intro w4 hw4
         have HX4 := q_ (HX2.out.trans hw4)
         have HB4 := q_ ((hw4.block _ (zad HB2.out)).trans HB2.out)
         clear hw4 f0
         go_wp2_with fail
         go_roundw
         case rel => exact ⟨1, by omega, by go_num, HX4, HB4, q_ fun i y hi hy => by
          obtain rfl : i = 0 := by omega
          rw [Hx.out] at hy; cases hy
          exact HR.out (by trivial)⟩
         case measure => simp [intOf]; omega
      ·have hje : j = attrs.length := by omega
       subst hje
       go_wp2_with fail
       go_ret
       exact ⟨true, fun _ => ones_of (fun h => HO.out (by first | trivial | exact h)) HOe.out HA.out, rfl, HX.out⟩
theorem checkT_ok (t : Ty) (S : Nat → Prop) (w : World) (cs : List Value) (hd : t.dep ≤ 1000000) (hS : ∀ b, S b → b < w.heap.size) (h : Ty.At S w t cs) :
  Calls Tryz.prog 44 #[.agg cs.toArray] w (SomeInt (fun z => z = 0 → t.ones = true ∧ t.dep ≤ 50) w) := by
 obtain ⟨A, cap, B, capb, rfl, _⟩ := Ty.At.parts h
 have HS := q_ hS
 have HA := q_ h
 have hx0 := (Ext.refl w).alloc (.cells #[.int .i64 t.kind, .string t.name, .slice A t.elem.length cap, .slice B t.attrs.length capb] 53)
 have HX0 := q_ hx0
 clear h hS hx0
 go_enter Tryz.func44, Tryz.ntmps44
 go_wp2_with fail
 refine (depthT_ok _ t S _ _ (Nat.le_refl _) hd (fun b hb => Nat.lt_of_lt_of_le (HS.out b hb) HX0.out.size) (Ty.At.alike (Alike.of_ext HX0.out HS.out) _ _ HA.out)).mono ?_
 rintro e w1 ⟨rfl, hx1⟩
 have HX1 := q_ (HX0.out.trans hx1)
 have HB1 : Hid (w1.heap[w.heap.size]? = some (.cells #[.int .i64 t.kind, .string t.name, .slice A t.elem.length cap, .slice B t.attrs.length capb] 53 (0, 0))) := q_ ((hx1.block _ (by simp)).trans (heap_alloc_new _ _))
 clear hx1
 by_cases hgt : 50 < t.dep
 ·go_wp2_with fail
  go_ret
  exact ⟨_, by simp, rfl, HX1.out⟩
 ·go_wp2_with (first | refine zac rfl 53 _ rfl w.heap.size 0 rfl zb9 zbv (cs := [.int .i64 t.kind, .string t.name, .slice A t.elem.length cap, .slice B t.attrs.length capb]) rfl (cells_box HB1.out) ?_)
  refine (mayT_ok _ t S _ [_, _, _, _] (Nat.le_refl _) (fun b hb => Nat.lt_of_lt_of_le (HS.out b hb) HX1.out.size) (Ty.At.alike (Alike.of_ext HX1.out HS.out) _ _ HA.out)).mono ?_
  rintro e w2 ⟨r, hr, rfl, hx2⟩
  have HX2 := q_ (HX1.out.trans hx2)
  have HR := q_ hr
  clear hx2 hr
  cases r with
  | false =>
   go_wp2_with fail
   go_ret
   exact ⟨_, by simp, rfl, HX2.out⟩
  | true =>
   go_wp2_with fail
   go_ret
   exact ⟨_, fun _ => ⟨HR.out (by trivial), by omega⟩, rfl, HX2.out⟩
end Go.Proofs.YtbkaffhbhimglaaGreat
