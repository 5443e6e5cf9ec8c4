/-
  What the thirteenth layer's statements try first. The conditions: none.
-/
import Derived.Test.YtbkaffhbhimglaaGreatAwk13PQ
import Derived.Test.YtbkaffhbhimglaaGreatGf
import Derived.Test.YtbkaffhbhimglaaGreatGe
namespace Go.Proofs.YtbkaffhbhimglaaGreat
open Go.RowKit
open Lib renaming hid → q_
set_option maxRecDepth 100000
set_option maxHeartbeats 4000000
def entUC : List Value := [.string tUser, .string tAa, .slice none 0 0, .int .i64 6, .bool false, .int .i64 0, .string ByteArray.empty, .string ByteArray.empty, .string ByteArray.empty, .slice none 0 0, .slice none 0 0]
theorem entUC_at (S : Nat → Prop) (w : World) : entR.At S w eUser entUC := ⟨_, recC, rfl, ⟨by rw [zab]; decide, by rw [zab]; decide⟩, Rep.RowsAt.nil _ _, recV_at _ _⟩
theorem entUC_one : ∀ u ∈ entUC, u.oneCell' = true := entR.one (entUC_at (fun _ => True) default)
def awkΦ (W0 : World) (sv uv : Value) (i : Nat) (x : Value) (w : World) : Prop :=
 if i = 0 then x = sv else if i = 1 then OwnL entR 49 W0.heap.size w x [eAct] else if i = 2 then x = uv else if i = 3 then x = .agg recC.toArray else if i = 4 then x = .agg entUC.toArray else
 ∃ g, x = .slice (some ⟨g, 0, none⟩) 1 1 ∧ w.heap[g]? = some (.cells entUC.toArray 49 (0, 0))
theorem awkΦ.ext {W0 : World} {sv uv : Value} {i : Nat} {x : Value} {w w' : World} (h : awkΦ W0 sv uv i x w) (k : Ext w w') : awkΦ W0 sv uv i x w' := by
 unfold awkΦ at h ⊢
 split
 ·rename_i hi; rwa [if_pos hi] at h
 ·rename_i h0
  rw [if_neg h0] at h
  split
  ·rename_i hi; rw [if_pos hi] at h; exact h.ext k
  ·rename_i h1
   rw [if_neg h1] at h
   split
   ·rename_i hi; rwa [if_pos hi] at h
   ·rename_i h2
    rw [if_neg h2] at h
    split
    ·rename_i hi; rwa [if_pos hi] at h
    ·rename_i h3
     rw [if_neg h3] at h
     split
     ·rename_i hi; rwa [if_pos hi] at h
     ·rename_i h4
      rw [if_neg h4] at h
      obtain ⟨g, e, hg⟩ := h
      exact ⟨g, e, (k.block _ (zad hg)).trans hg⟩
theorem awkΦ.at0 {W0 : World} {sv uv x : Value} {w : World} (h : awkΦ W0 sv uv 0 x w) : x = sv := h
theorem awkΦ.at1 {W0 : World} {sv uv x : Value} {w : World} (h : awkΦ W0 sv uv 1 x w) : OwnL entR 49 W0.heap.size w x [eAct] := h
theorem awkΦ.at2 {W0 : World} {sv uv x : Value} {w : World} (h : awkΦ W0 sv uv 2 x w) : x = uv := h
theorem awkΦ.at3 {W0 : World} {sv uv x : Value} {w : World} (h : awkΦ W0 sv uv 3 x w) : x = .agg recC.toArray := h
theorem awkΦ.at4 {W0 : World} {sv uv x : Value} {w : World} (h : awkΦ W0 sv uv 4 x w) : x = .agg entUC.toArray := h
theorem awkΦ.at5 {W0 : World} {sv uv x : Value} {w : World} (h : awkΦ W0 sv uv 5 x w) : ∃ g, x = .slice (some ⟨g, 0, none⟩) 1 1 ∧ w.heap[g]? = some (.cells entUC.toArray 49 (0, 0)) := h
structure AwkJ (W0 : World) (sv uv : Value) (L : Nat → Bool) (xs : List Value) (w : World) : Prop where
 ext : Ext W0 w
 early : L 6 = false → ∀ i, i < 6 → L i = true → awkΦ W0 sv uv i (xs.getD i undef) w
 late : L 6 = true → OwnL entR 49 W0.heap.size w (xs.getD 6 undef) [eAct, eUser]
theorem AwkJ.congr {W0 : World} {sv uv : Value} {L L' : Nat → Bool} {xs : List Value} {w : World} (he : ∀ i, i < 7 → L i = L' i) (h : AwkJ W0 sv uv L xs w) : AwkJ W0 sv uv L' xs w :=
 ⟨h.ext, fun h6 i hi hl => h.early (by rw [he 6 (by omega)]; exact h6) i hi (by rw [he i (by omega)]; exact hl), fun h6 => h.late (by rw [he 6 (by omega)]; exact h6)⟩
theorem AwkJ.one {W0 : World} {sv uv : Value} {L : Nat → Bool} {xs : List Value} {w w' : World} {i : Nat} {v : Value} (h : AwkJ W0 sv uv L xs w) (hl : xs.length = 7) (hi : i < 6) (h6 : L 6 = false) (hx : Ext w w') (hv : awkΦ W0 sv uv i v w') : AwkJ W0 sv uv (done L i) (xs.set i v) w' := by
 refine ⟨h.ext.trans hx, fun _ j hj hjl => ?_, fun hd => ?_⟩
 ·by_cases hji : j = i
  ·subst hji
   rw [List.getD_eq_getElem?_getD, List.getElem?_set_self (by omega)]
   exact hv
  ·rw [List.getD_eq_getElem?_getD, List.getElem?_set_ne (Ne.symm hji), ← List.getD_eq_getElem?_getD]
   rw [zc8 hji] at hjl
   exact (h.early h6 j hj hjl).ext hx
 ·rw [zc8 (by omega), h6] at hd; cases hd
theorem AwkJ.last {W0 : World} {sv uv : Value} {L : Nat → Bool} {xs : List Value} {w' : World} {v : Value} (hl : xs.length = 7) (hx : Ext W0 w') (hv : OwnL entR 49 W0.heap.size w' v [eAct, eUser]) : AwkJ W0 sv uv (done L 6) (xs.set 6 v) w' := by
 refine ⟨hx, fun hd => ?_, fun _ => ?_⟩
 ·rw [done_self] at hd; cases hd
 ·rw [List.getD_eq_getElem?_getD, List.getElem?_set_self (by omega)]
  exact hv
theorem Tryz.builtU : Tryz.prog.built 49 [(0, .agg #[.string tUser, .string tAa]), (2, .agg recC.toArray)] = some entUC.toArray := by kernel_rfl
theorem Tryz.builtR : Tryz.prog.built 46 [(0, .int .i64 6)] = some recC.toArray := by kernel_rfl
theorem lst7' {xs : List Value} (h : xs.length = 7) : ∃ a b c d e f g, xs = [a, b, c, d, e, f, g] := by
 match xs, h with
 | [a, b, c, d, e, f, g], _ => exact ⟨a, b, c, d, e, f, g, rfl⟩
theorem heapA6 (w : World) (o0 o1 o2 o3 o4 o5 : Obj) : ∃ W, W = (((((w.alloc o0).alloc o1).alloc o2).alloc o3).alloc o4).alloc o5 ∧ W.heap[w.heap.size]? = some o0 ∧ W.heap[w.heap.size + 1]? = some o1 ∧ W.heap[w.heap.size + 2]? = some o2 ∧ W.heap[w.heap.size + 3]? = some o3 ∧ W.heap[w.heap.size + 4]? = some o4 ∧ W.heap[w.heap.size + 5]? = some o5 ∧ W.heap.size = w.heap.size + 6 ∧ Ext w W := by
 refine ⟨_, rfl, ?_, ?_, ?_, ?_, ?_, ?_, by simp, ((((((Ext.refl w).alloc _).alloc _).alloc _).alloc _).alloc _).alloc _⟩ <;> (simp only [World.alloc, Array.getElem?_push, Array.size_push]; (repeat rw [if_neg (by omega)]); simp)
theorem awake13_ok (w : World) : Calls Tryz.prog 4 #[] w fun e w' => e = .returned (.bool true) ∧ Ext w w' := by
 go_enter Tryz.func4, Tryz.ntmps4
 go_wp2_with fail
 obtain ⟨W, hW, m0, m1, m2, m3, m4, m5, hsz, hx⟩ := heapA6 w (.cells #[.string tUser, .slice none 0 0, .slice none 0 0] 39) (.cells #[.string tUser] 9) (.cells #[.string tUser] 9)
  (.cells #[.string tVw, .slice none 0 0, .slice (some ⟨w.heap.size + 1, 0, none⟩) 1 1, .slice (some ⟨w.heap.size + 1 + 1, 0, none⟩) 1 1, .slice none 0 0] 41) (.cells #[.slice (some ⟨w.heap.size, 0, none⟩) 1 1, .slice (some ⟨w.heap.size + 1 + 1 + 1, 0, none⟩) 1 1] 25) (.cells #[.string tUser, .string tAa] 43)
 have hstr : ∀ b, W.heap[b]? = some (.cells #[.string tUser] 9 (0, 0)) → strR.RowsAt (fun b => b < W.heap.size) W [tUser] (.slice (some ⟨b, 0, none⟩) 1 1) := fun b hb =>
  flat_block (xs := [.string tUser]) (n := 1) (cap := 1) hb (Rep.Flat.single (R := strR) ⟨rfl, by rw [zab]; decide⟩) (zad hb) (by rw [zak]; simp) rfl (by simp) (by rw [zab]; omega)
 have hsch : Sch.At (fun b => b < W.heap.size) W sch13 [.slice (some ⟨w.heap.size, 0, none⟩) 1 1, .slice (some ⟨w.heap.size + 1 + 1 + 1, 0, none⟩) 1 1] := by
  refine ⟨_, _, rfl, flat_block (S := fun b => b < W.heap.size) (R := entTR) (n := 1) (cap := 1) (l := sch13.types) (xs := [.string tUser, .slice none 0 0, .slice none 0 0]) m0 (Rep.Flat.single (R := entTR) ⟨_, _, rfl, by rw [zab]; decide, Rep.RowsAt.nil _ _, Rep.RowsAt.nil _ _⟩) (zad m0) (by rw [zak]; simp [sch13]) rfl (by simp [sch13]) (by rw [zab]; omega),
   flat_block (S := fun b => b < W.heap.size) (R := actTR) (n := 1) (cap := 1) (l := sch13.acts) (xs := [.string tVw, .slice none 0 0, .slice (some ⟨w.heap.size + 1, 0, none⟩) 1 1, .slice (some ⟨w.heap.size + 1 + 1, 0, none⟩) 1 1, .slice none 0 0]) m3 (Rep.Flat.single (R := actTR) ⟨_, _, _, _, rfl, by rw [zab]; decide, Rep.RowsAt.nil _ _, hstr _ m1, hstr _ m2, Rep.RowsAt.nil _ _⟩) (zad m3) (by rw [zak]; simp [sch13]) rfl (by simp [sch13]) (by rw [zab]; omega)⟩
 have HSch := q_ hsch
 have HX0 := q_ hx
 have M4 := q_ m4
 have M5 := q_ m5
 obtain ⟨i0, hi0, hz0, hz1, hz2⟩ := info_parts zdr
 have e4 : w.heap.size + 1 + 1 + 1 + 1 = w.heap.size + 4 := rfl
 clear m0 m1 m2 m3 m4 m5 hsz hx hstr hsch
 unfold tUser tVw tAa at hW
 rw [← hW]
 clear hW
 refine region_inv 7 (AwkJ W (.agg #[.slice (some ⟨w.heap.size, 0, none⟩) 1 1, .slice (some ⟨w.heap.size + 1 + 1 + 1, 0, none⟩) 1 1]) (.agg #[.string tUser, .string tAa])) (by kernel_rfl) (by kernel_rfl) (by kernel_rfl) (fun L L' xs w he h => h.congr he)
  (fun xs _ => ⟨⟨⟨rfl, rfl, rfl, Nat.le_refl _, fun _ _ => rfl⟩, Nat.le_succ _⟩, fun _ _ _ h => (by cases h), fun h => (by cases h)⟩)
  (fun j op hj ho L ys V a hyl hJ hL hw hcl hold hat Q' K hK => ?_) ?_
 ·have hV := hJ.ext
  have h6 : j < 6 → L 6 = false := fun hj6 => by
   cases h : L 6 with
   | false => rfl
   | true =>
    have a1 := hcl 6 1 (by omega) (by omega) h (by kernel_rfl)
    have a5 := hcl 6 5 (by omega) (by omega) h (by kernel_rfl)
    have a0 := hcl 1 0 (by omega) (by omega) a1 (by kernel_rfl)
    have a4 := hcl 5 4 (by omega) (by omega) a5 (by kernel_rfl)
    have a2 := hcl 4 2 (by omega) (by omega) a4 (by kernel_rfl)
    have a3 := hcl 4 3 (by omega) (by omega) a4 (by kernel_rfl)
    rcases (by omega : j = 0 ∨ j = 1 ∨ j = 2 ∨ j = 3 ∨ j = 4 ∨ j = 5) with rfl | rfl | rfl | rfl | rfl | rfl <;> first | exact absurd (hL.symm.trans a0) (by decide) | exact absurd (hL.symm.trans a1) (by decide) | exact absurd (hL.symm.trans a2) (by decide) | exact absurd (hL.symm.trans a3) (by decide) | exact absurd (hL.symm.trans a4) (by decide) | exact absurd (hL.symm.trans a5) (by decide)
  have hf : L 6 = false → ∀ m t, m < 6 → zbf _ j m = true → dstIs _ m t = true → awkΦ W (.agg #[.slice (some ⟨w.heap.size, 0, none⟩) 1 1, .slice (some ⟨w.heap.size + 1 + 1 + 1, 0, none⟩) 1 1]) (.agg #[.string tUser, .string tAa]) m (a.eval (.tmp t)) V := fun h m t hm hwt hdt => by
   rw [hat m t (by omega) hdt]; exact hJ.early h m hm (hw m (by omega) hwt)
  rcases (by omega : j = 0 ∨ j = 1 ∨ j = 2 ∨ j = 3 ∨ j = 4 ∨ j = 5 ∨ j = 6) with rfl | rfl | rfl | rfl | rfl | rfl | rfl <;> obtain rfl := Option.some.inj ho
  ·exact zef (za5 _ _ rfl (w.heap.size + 4) 0 (hold 1 (by kernel_rfl)) zck zb5 rfl (zat ((hV.block _ (zad M4.out)).trans M4.out))) (Ext.refl V) rfl fun v w' hx hv => hK v w' (hJ.one hyl (by omega) (h6 (by omega)) hx hv)
  ·refine zeg (zc3 Tryz.func8 rfl rfl rfl (map_one (awkΦ.at0 (hf (h6 (by omega)) 0 12 (by omega) (by kernel_rfl) (by kernel_rfl))))) ?_ fun v w' hx hv => hK v w' (hJ.one hyl (by omega) (h6 (by omega)) hx hv)
   refine (actions_ok (fun b => b < W.heap.size) sch13 [_, _] V (fun b hb => Nat.lt_of_lt_of_le hb hV.size) (HSch.out.alike (Alike.of_ext hV fun _ h => h))).mono ?_
   rintro e w' ⟨v, rfl, ho, hx⟩
   exact ⟨v, rfl, hx, OwnL.low ho hV.size⟩
  ·exact zef (za5 _ _ rfl (w.heap.size + 5) 0 (hold 2 (by kernel_rfl)) zb8 zbk rfl (zat ((hV.block _ (zad M5.out)).trans M5.out))) (Ext.refl V) rfl fun v w' hx hv => hK v w' (hJ.one hyl (by omega) (h6 (by omega)) hx hv)
  ·exact zef (zd5 _ _ rfl (vals := [(0, .int .i64 6)]) (by simp only [List.map_toArray, List.map_cons, List.map_nil]; rfl) Tryz.builtR) (Ext.refl V) rfl fun v w' hx hv => hK v w' (hJ.one hyl (by omega) (h6 (by omega)) hx hv)
  ·have e2 := awkΦ.at2 (hf (h6 (by omega)) 2 14 (by omega) (by kernel_rfl) (by kernel_rfl))
   have e3 := awkΦ.at3 (hf (h6 (by omega)) 3 15 (by omega) (by kernel_rfl) (by kernel_rfl))
   exact zef (zd5 _ _ rfl (by simp only [List.map_toArray, List.map_cons, List.map_nil]; rw [e2, e3]) Tryz.builtU) (Ext.refl V) rfl fun v w' hx hv => hK v w' (hJ.one hyl (by omega) (h6 (by omega)) hx hv)
  ·exact zef (exec_build _ _ rfl (awkΦ.at4 (hf (h6 (by omega)) 4 16 (by omega) (by kernel_rfl) (by kernel_rfl))) (Tryz.build57 _ _ _ _ _ _ _ _ _ _ _ V)) ((Ext.refl V).alloc _) ⟨_, rfl, heap_alloc_new _ _⟩ fun v w' hx hv => hK v w' (hJ.one hyl (by omega) (h6 (by omega)) hx hv)
  ·have ho1 := awkΦ.at1 (hf hL 1 13 (by omega) (by kernel_rfl) (by kernel_rfl))
   obtain ⟨g, eg, hg⟩ := awkΦ.at5 (hf hL 5 17 (by omega) (by kernel_rfl) (by kernel_rfl))
   have ho1 : OwnL entR 49 W.heap.size V (a.eval (.tmp 13)) [eAct] := ho1
   obtain ⟨zs, o1, o2⟩ := ho1
   refine wp_append_at (.tmp 13) (.tmp 17) 26 rfl W.heap.size 49 i0 _ 11 176 Tryz.underlying26 hi0 hz0 hz1 hz2 rfl (by decide) _ 1 zs rfl o1 g 0 1 1 entUC eg rfl (zat hg) entUC_one (by rw [zab]; omega) (by omega) hV.size fun v' w' ho' hg' hb' => hK v' w' ?_
   exact AwkJ.last hyl (zas hV hg' fun b e => (o1.lt b e).1) (OwnL.push (l := [eAct]) o2 (entUC_at _ _) hg' ho' hb')
 ·intro L xs V hxl hL hJ
  have HJ := q_ (hJ.late (hL 6 (by omega)))
  have HXV := q_ hJ.ext
  obtain ⟨x0, x1, x2, x3, x4, x5, x6, rfl⟩ := lst7' hxl
  have HJ : Hid (OwnL entR 49 W.heap.size V x6 [eAct, eUser]) := HJ
  clear hJ hL hxl
  simp only [List.take, List.drop, zaw, Act.put, List.setIfInBounds_toArray, List.set_cons_zero, List.set_cons_succ]
  obtain ⟨A6, c6, e6⟩ := HJ.out.shape
  subst e6
  have hrows := HJ.out.rows (by rw [zak]; simp)
  have HRows := q_ hrows
  obtain ⟨gb, go, eA, hgb, hrow⟩ := rows_at hrows (by simp)
  subst eA
  obtain ⟨_, _, eS, ⟨_, hc1, hc2⟩, _⟩ := hrows
  have hc1 : 2 ≤ c6 := by injection eS with _ _ e3; subst e3; exact hc1
  have hc2 : c6 ≤ 9223372036854775807 := by injection eS with _ _ e3; subst e3; rwa [zab] at hc2
  have HRow2 : Hid (entR.RowsAt (fun b => b < V.heap.size) V [eUser] (.slice (some ⟨gb, go + 11, none⟩) 1 (c6 - 1))) := q_ ⟨_, _, rfl, ⟨by rw [zak]; simp, by simp; omega, by rw [zab]; omega⟩, fun _ => ⟨gb, go + 11, rfl, hgb, fun i x hx => by
   obtain rfl : i = 0 := by have := (List.getElem?_eq_some_iff.1 hx).1; simp at this; exact this
   obtain rfl : eUser = x := by simpa using hx
   obtain ⟨cs, h1, h2⟩ := hrow 1 eUser rfl
   have h1 : CellsAt V gb (go + 1 * 11) cs := h1
   exact ⟨cs, by simpa using h1, h2⟩⟩⟩
  have HSchV := q_ ((HSch.out.alike (Alike.of_ext HXV.out fun _ h => h)).mono fun b hb => Nat.lt_of_lt_of_le hb HXV.out.size)
  have hB4 := (HXV.out.block _ (zad M4.out)).trans M4.out
  have hB5 := (HXV.out.block _ (zad M5.out)).trans M5.out
  have s0 := zaa (show V.cell? ⟨w.heap.size + 1 + 1 + 1 + 1, 0, none⟩ = some (.slice (some ⟨w.heap.size, 0, none⟩) 1 1) from cell_of_row _ _ 0 _ _ _ hB4)
  have s1 := zaa (show V.cell? ⟨w.heap.size + 1 + 1 + 1 + 1, 1, none⟩ = some (.slice (some ⟨w.heap.size + 1 + 1 + 1, 0, none⟩) 1 1) from cell_of_row _ _ 1 _ _ _ hB4)
  have u0 := zaa (show V.cell? ⟨w.heap.size + 1 + 1 + 1 + 1 + 1, 0, none⟩ = some (.string ⟨#[85, 115, 101, 114]⟩) from cell_of_row _ _ 0 _ _ _ hB5)
  have u1 := zaa (show V.cell? ⟨w.heap.size + 1 + 1 + 1 + 1 + 1, 1, none⟩ = some (.string ⟨#[97]⟩) from cell_of_row _ _ 1 _ _ _ hB5)
  have hI : ∀ (X : World), Val.At (fun b => b < X.heap.size) X (.mk 2 false 0 ByteArray.empty ByteArray.empty ByteArray.empty [] []) [.int .i64 2, .bool false, .int .i64 0, .string ByteArray.empty, .string ByteArray.empty, .string ByteArray.empty, .slice none 0 0, .slice none 0 0] := fun X => by
   unfold Val.At
   refine ⟨none, 0, .slice none 0 0, rfl, ⟨⟨by omega, by omega⟩, ⟨by omega, by omega⟩, ?_, ?_, ?_⟩, ⟨by rw [zak]; simp, by simp, by simp⟩, by simp, none, 0, rfl, by rw [zak]; simp, by simp, by simp, by simp, by simp⟩ <;> (rw [zab]; decide)
  have hIs : (Val.mk 2 false 0 ByteArray.empty ByteArray.empty ByteArray.empty [] []).Is := by
   unfold Val.Is
   exact .inr (.inl ⟨rfl, rfl, rfl, rfl, rfl, rfl, rfl⟩)
  have hT : ∀ (X : World) (k : Int), 0 ≤ k → k ≤ 8 → Ty.At (fun b => b < X.heap.size) X (.mk k ByteArray.empty [] []) [.int .i64 k, .string ByteArray.empty, .slice none 0 0, .slice none 0 0] := fun X k h1 h2 => Ty.At.of ⟨by omega, by omega⟩ (by rw [zab]; decide) (Rep.RowsAt.nil _ _) (Rep.RowsAt.nil _ _)
  have KV1 : Hid (∀ X, Ext V X → Calls Tryz.prog 13 #[.agg #[.int .i64 2, .bool false, .int .i64 0, .string ⟨#[]⟩, .string ⟨#[]⟩, .string ⟨#[]⟩, .slice none 0 0, .slice none 0 0], .agg #[.int .i64 4, .string ⟨#[]⟩, .slice none 0 0, .slice none 0 0]] X fun e w' => e = .returned (.bool true) ∧ Ext X w') := q_ fun X _ => by
   have h := takes_ok _ _ (Nat.le_refl _) hIs _ (by simp) (.mk 4 ByteArray.empty [] []) _ X _ _ (fun _ h => h) (hI X) (hT X 4 (by omega) (by omega))
   rwa [show Ty.takes (.mk 4 ByteArray.empty [] []) (.mk 2 false 0 ByteArray.empty ByteArray.empty ByteArray.empty [] []) = true by simp [Ty.takes]] at h
  have KV2 : Hid (∀ X, Ext V X → Calls Tryz.prog 13 #[.agg #[.int .i64 2, .bool false, .int .i64 0, .string ⟨#[]⟩, .string ⟨#[]⟩, .string ⟨#[]⟩, .slice none 0 0, .slice none 0 0], .agg #[.int .i64 5, .string ⟨#[]⟩, .slice none 0 0, .slice none 0 0]] X fun e w' => e = .returned (.bool false) ∧ Ext X w') := q_ fun X _ => by
   have h := takes_ok _ _ (Nat.le_refl _) hIs _ (by simp) (.mk 5 ByteArray.empty [] []) _ X _ _ (fun _ h => h) (hI X) (hT X 5 (by omega) (by omega))
   rwa [show Ty.takes (.mk 5 ByteArray.empty [] []) (.mk 2 false 0 ByteArray.empty ByteArray.empty ByteArray.empty [] []) = false by simp [Ty.takes]] at h
  have hsm : ∀ l : List Ent, (∀ e ∈ l, e.ps = [] ∧ e.av = recV) → (∀ e ∈ l, e.ps.length ≤ 1048576) ∧ ∀ e ∈ l, e.av.dep ≤ 1000000 := fun l h => ⟨fun e he => by rw [(h e he).1]; simp, fun e he => by rw [(h e he).2]; decide⟩
  have hac : ∀ a ∈ sch13.acts, a.ins.length ≤ 1048576 := fun a ha => by
   simp only [sch13, List.mem_singleton] at ha
   subst ha; simp
  have KS1 : Hid (∀ X, Ext V X → Calls Tryz.prog 9 #[.agg #[.slice (some ⟨w.heap.size, 0, none⟩) 1 1, .slice (some ⟨w.heap.size + 1 + 1 + 1, 0, none⟩) 1 1], .slice (some ⟨gb, go, none⟩) 2 c6] X fun e w' => e = .returned (.int .i64 0) ∧ Ext X w') := q_ fun X hX => by
   have h := storeP_ok (fun b => b < V.heap.size) sch13 [_, _] [eAct, eUser] _ X (fun b hb => Nat.lt_of_lt_of_le hb hX.size) (HSchV.out.alike (Alike.of_ext hX fun _ h => h)) (HRows.out.alike (Alike.of_ext hX fun _ h => h)) (by simp) (hsm _ zep).1 (hsm _ zep).2 (by simp [sch13]) hac
   rwa [sto13] at h
  have KS2 : Hid (∀ X, Ext V X → Calls Tryz.prog 9 #[.agg #[.slice (some ⟨w.heap.size, 0, none⟩) 1 1, .slice (some ⟨w.heap.size + 1 + 1 + 1, 0, none⟩) 1 1], .slice (some ⟨gb, go + 11, none⟩) 1 (c6 - 1)] X fun e w' => e = .returned (.int .i64 41) ∧ Ext X w') := q_ fun X hX => by
   have hpl : ∀ e ∈ [eUser], e.ps = [] ∧ e.av = recV := fun e he => zep e (by simp at he ⊢; exact .inr he)
   have h := storeP_ok (fun b => b < V.heap.size) sch13 [_, _] [eUser] _ X (fun b hb => Nat.lt_of_lt_of_le hb hX.size) (HSchV.out.alike (Alike.of_ext hX fun _ h => h)) (HRow2.out.alike (Alike.of_ext hX fun _ h => h)) (by simp) (hsm _ hpl).1 (hsm _ hpl).2 (by simp [sch13]) hac
   rwa [sto13'] at h
  have KR : Hid (∀ X, Ext V X → Calls Tryz.prog 14 #[.agg #[.slice (some ⟨w.heap.size, 0, none⟩) 1 1, .slice (some ⟨w.heap.size + 1 + 1 + 1, 0, none⟩) 1 1], .agg #[.string ⟨#[85, 115, 101, 114]⟩, .string ⟨#[97]⟩, .string ⟨#[65, 99, 116, 105, 111, 110]⟩, .string ⟨#[118]⟩, .string ⟨#[85, 115, 101, 114]⟩, .string ⟨#[97]⟩, .int .i64 6, .bool false, .int .i64 0, .string ⟨#[]⟩, .string ⟨#[]⟩, .string ⟨#[]⟩, .slice none 0 0, .slice none 0 0]] X fun e w' => e = .returned (.int .i64 0) ∧ Ext X w') := q_ fun X hX => by
   have h := requestP_ok (fun b => b < V.heap.size) sch13 [_, _] req13 (.string tUser :: .string tAa :: .string tAct :: .string tVw :: .string tUser :: .string tAa :: recC) X (by decide) (fun b hb => Nat.lt_of_lt_of_le hb hX.size) (HSchV.out.alike (Alike.of_ext hX fun _ h => h))
    ⟨recC, rfl, ⟨⟨by rw [zab]; decide, by rw [zab]; decide⟩, ⟨by rw [zab]; decide, by rw [zab]; decide⟩, ⟨by rw [zab]; decide, by rw [zab]; decide⟩⟩, recV_at _ _⟩
   rw [req13_ok] at h
   exact h
  clear hrow eS hB4 hB5 hI hIs hT hsm hac hgb
  go_wp2_with fail
  refine zae (by kernel_rfl) (by kernel_rfl) ?_
  iterate 2 (go_big_quiet_step (fail))
  go_big_quiet_step ((go_at_call 13; exact zan KV1.out _ _))
  iterate 3 (go_big_quiet_step (fail))
  go_big_quiet_step ((go_at_call 13; exact zan KV2.out _ _))
  iterate 10 (go_big_quiet_step (fail))
  go_big_quiet_step ((go_at_call 9; exact zan KS1.out _ _))
  iterate 6 (go_big_quiet_step (fail))
  go_big_quiet_step ((go_at_call 9; exact zan KS2.out _ _))
  iterate 9 (go_big_quiet_step (fail))
  go_big_quiet_step ((go_at_call 14; exact zan KR.out _ _))
  iterate 3 (go_big_quiet_step (fail))
  refine wpQuiet_nil ?_
  intro w4 hw4
  have HX4 := q_ (HX0.out.trans (HXV.out.trans hw4))
  clear hw4 s0 s1 u0 u1
  go_wp2_with fail
  go_ret
  exact ⟨rfl, HX4.out⟩
end Go.Proofs.YtbkaffhbhimglaaGreat
