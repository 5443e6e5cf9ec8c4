/-
  ConformValues: what the statement's own function answers. The conditions: the arguments lie in memory as they should.
-/
import Derived.Test.YtjllolagcdjlnaaGreatAwk13M
import Derived.Test.YtjllolagcdjlnaaGreatMeasM
import Derived.Test.YtjllolagcdjlnaaGreatMeasTM
import Derived.Test.YtjllolagcdjlnaaGreatConRM
namespace Go.Proofs.YtjllolagcdjlnaaGreat
open Go.RowKit

theorem box4 {w : World} {g : Nat} {T : TypeId} {a b c d : Value} (h : w.heap[g]? = some (.cells #[a, b, c, d] T (0, 0))) : w.cell? ⟨g, 0, none⟩ = some a ∧ w.cell? ⟨g, 1, none⟩ = some b ∧ w.cell? ⟨g, 2, none⟩ = some c ∧ w.cell? ⟨g, 3, none⟩ = some d :=
  ⟨cell_of_row _ _ 0 _ _ _ h, cell_of_row _ _ 1 _ _ _ h, cell_of_row _ _ 2 _ _ _ h, cell_of_row _ _ 3 _ _ _ h⟩
theorem box8 {w : World} {g : Nat} {T : TypeId} {a b c d e f x y : Value} (h : w.heap[g]? = some (.cells #[a, b, c, d, e, f, x, y] T (0, 0))) : w.cell? ⟨g, 0, none⟩ = some a ∧ w.cell? ⟨g, 1, none⟩ = some b ∧ w.cell? ⟨g, 2, none⟩ = some c ∧ w.cell? ⟨g, 3, none⟩ = some d ∧
    w.cell? ⟨g, 4, none⟩ = some e ∧ w.cell? ⟨g, 5, none⟩ = some f ∧ w.cell? ⟨g, 6, none⟩ = some x ∧ w.cell? ⟨g, 7, none⟩ = some y :=
  ⟨cell_of_row _ _ 0 _ _ _ h, cell_of_row _ _ 1 _ _ _ h, cell_of_row _ _ 2 _ _ _ h, cell_of_row _ _ 3 _ _ _ h, cell_of_row _ _ 4 _ _ _ h, cell_of_row _ _ 5 _ _ _ h, cell_of_row _ _ 6 _ _ _ h, cell_of_row _ _ 7 _ _ _ h⟩

set_option maxRecDepth 100000 in
set_option maxHeartbeats 8000000 in
theorem conformValues_walk (v : Val) (t u : Ty) (W : World) (cv ct cu : List Value) (hv : Val.At (fun b => b < W.heap.size) W v cv) (ht : Ty.At (fun b => b < W.heap.size) W t ct) (hu : Ty.At (fun b => b < W.heap.size) W u cu) :
    Calls Tryz.prog 11 #[.agg cv.toArray, .agg ct.toArray, .agg cu.toArray] W fun e W' => e = .returned (.bool true) ∧ Ext W W' := by
  obtain ⟨k, bo, n, s, ut, ui, A, l, c, A2, l2, c2, rfl⟩ := hv.shape
  obtain ⟨tA, ta, tB, tb, rfl, _⟩ := Ty.At.parts ht
  obtain ⟨uA, ua, uB, ub, rfl, _⟩ := Ty.At.parts hu
  have HVa := Lib.hid hv
  have HTa := Lib.hid ht
  have HUa := Lib.hid hu
  obtain ⟨q0, q1, q2, qs, qx⟩ := heapT3 W (.cells #[.int .i64 k, .bool bo, .int .i64 n, .string s, .string ut, .string ui, .slice A l c, .slice A2 l2 c2] 35) (.cells #[.int .i64 t.kind, .string t.name, .slice tA t.elem.length ta, .slice tB t.attrs.length tb] 57) (.cells #[.int .i64 u.kind, .string u.name, .slice uA u.elem.length ua, .slice uB u.attrs.length ub] 57)
  have HV0 := Lib.hid q0
  have HT0 := Lib.hid q1
  have HU0 := Lib.hid q2
  have HX0 := Lib.hid qx
  clear hv ht hu q0 q1 q2 qs qx
  go_enter Tryz.func11, Tryz.ntmps11
  go_wp2_with fail
  refine (awake13_ok _).mono ?_
  rintro e w1 ⟨rfl, hx⟩
  have HX1 := Lib.hid (HX0.out.trans hx)
  have HV1 := Lib.hid ((hx.block _ (Blk_lt HV0.out)).trans HV0.out)
  have HT1 := Lib.hid ((hx.block _ (Blk_lt HT0.out)).trans HT0.out)
  have HU1 := Lib.hid ((hx.block _ (Blk_lt HU0.out)).trans HU0.out)
  clear hx HV0 HT0 HU0
  go_wp2_with (first | refine wpList_load_cells rfl 35 _ rfl W.heap.size 0 rfl Tryz.agg27 Tryz.size27 (cs := [.int .i64 k, .bool bo, .int .i64 n, .string s, .string ut, .string ui, .slice A l c, .slice A2 l2 c2]) rfl (cells_of_row HV1.out) ?_ | refine wpList_load_cells rfl 57 _ rfl (W.heap.size + 1) 0 rfl Tryz.aggTy Tryz.sizeTy (cs := [.int .i64 t.kind, .string t.name, .slice tA t.elem.length ta, .slice tB t.attrs.length tb]) rfl (cells_of_row HT1.out) ?_ | refine wpList_load_cells rfl 57 _ rfl (W.heap.size + 1 + 1) 0 rfl Tryz.aggTy Tryz.sizeTy (cs := [.int .i64 u.kind, .string u.name, .slice uA u.elem.length ua, .slice uB u.attrs.length ub]) rfl (cells_of_row HU1.out) ?_)
  refine (slight_ok13 _ v 0 _ w1 [_, _, _, _, _, _, _, _] (Nat.le_refl _) (by omega) (fun b hb => Nat.lt_of_lt_of_le hb HX1.out.size) (HVa.out.alike (Alike.of_ext HX1.out fun _ h => h))).mono ?_
  rintro e w2 ⟨r1, hr1, rfl, hx⟩
  have HX2 := Lib.hid (HX1.out.trans hx)
  have HV2 := Lib.hid ((hx.block _ (Blk_lt HV1.out)).trans HV1.out)
  have HT2 := Lib.hid ((hx.block _ (Blk_lt HT1.out)).trans HT1.out)
  have HU2 := Lib.hid ((hx.block _ (Blk_lt HU1.out)).trans HU1.out)
  have HR1 := Lib.hid hr1
  clear hx hr1 HV1 HT1 HU1
  go_wp2_with (first | refine wpList_load_cells rfl 35 _ rfl W.heap.size 0 rfl Tryz.agg27 Tryz.size27 (cs := [.int .i64 k, .bool bo, .int .i64 n, .string s, .string ut, .string ui, .slice A l c, .slice A2 l2 c2]) rfl (cells_of_row HV2.out) ?_ | refine wpList_load_cells rfl 57 _ rfl (W.heap.size + 1) 0 rfl Tryz.aggTy Tryz.sizeTy (cs := [.int .i64 t.kind, .string t.name, .slice tA t.elem.length ta, .slice tB t.attrs.length tb]) rfl (cells_of_row HT2.out) ?_ | refine wpList_load_cells rfl 57 _ rfl (W.heap.size + 1 + 1) 0 rfl Tryz.aggTy Tryz.sizeTy (cs := [.int .i64 u.kind, .string u.name, .slice uA u.elem.length ua, .slice uB u.attrs.length ub]) rfl (cells_of_row HU2.out) ?_)
  refine (fewT_ok13 _ t 0 _ w2 [_, _, _, _] (Nat.le_refl _) (by omega) (fun b hb => Nat.lt_of_lt_of_le hb HX2.out.size) (Ty.At.alike (Alike.of_ext HX2.out fun _ h => h) _ _ HTa.out)).mono ?_
  rintro e w3 ⟨r2, hr2, rfl, hx⟩
  have HX3 := Lib.hid (HX2.out.trans hx)
  have HV3 := Lib.hid ((hx.block _ (Blk_lt HV2.out)).trans HV2.out)
  have HT3 := Lib.hid ((hx.block _ (Blk_lt HT2.out)).trans HT2.out)
  have HU3 := Lib.hid ((hx.block _ (Blk_lt HU2.out)).trans HU2.out)
  have HR2 := Lib.hid hr2
  clear hx hr2 HV2 HT2 HU2
  go_wp2_with (first | refine wpList_load_cells rfl 35 _ rfl W.heap.size 0 rfl Tryz.agg27 Tryz.size27 (cs := [.int .i64 k, .bool bo, .int .i64 n, .string s, .string ut, .string ui, .slice A l c, .slice A2 l2 c2]) rfl (cells_of_row HV3.out) ?_ | refine wpList_load_cells rfl 57 _ rfl (W.heap.size + 1) 0 rfl Tryz.aggTy Tryz.sizeTy (cs := [.int .i64 t.kind, .string t.name, .slice tA t.elem.length ta, .slice tB t.attrs.length tb]) rfl (cells_of_row HT3.out) ?_ | refine wpList_load_cells rfl 57 _ rfl (W.heap.size + 1 + 1) 0 rfl Tryz.aggTy Tryz.sizeTy (cs := [.int .i64 u.kind, .string u.name, .slice uA u.elem.length ua, .slice uB u.attrs.length ub]) rfl (cells_of_row HU3.out) ?_)
  refine (fewT_ok13 _ u 0 _ w3 [_, _, _, _] (Nat.le_refl _) (by omega) (fun b hb => Nat.lt_of_lt_of_le hb HX3.out.size) (Ty.At.alike (Alike.of_ext HX3.out fun _ h => h) _ _ HUa.out)).mono ?_
  rintro e w4 ⟨r3, hr3, rfl, hx⟩
  have HX4 := Lib.hid (HX3.out.trans hx)
  have HV4 := Lib.hid ((hx.block _ (Blk_lt HV3.out)).trans HV3.out)
  have HT4 := Lib.hid ((hx.block _ (Blk_lt HT3.out)).trans HT3.out)
  have HU4 := Lib.hid ((hx.block _ (Blk_lt HU3.out)).trans HU3.out)
  have HR3 := Lib.hid hr3
  clear hx hr3 HV3 HT3 HU3
  cases r1 with
  | false =>
    go_wp2_with fail
    go_ret
    exact ⟨rfl, HX4.out⟩
  | true =>
  cases r2 with
  | false =>
    go_wp2_with fail
    go_ret
    exact ⟨rfl, HX4.out⟩
  | true =>
  cases r3 with
  | false =>
    go_wp2_with fail
    go_ret
    exact ⟨rfl, HX4.out⟩
  | true =>
  have HDv : Hid (v.dep ≤ 1000000) := Lib.hid (by have := HR1.out rfl; omega)
  have HDt : Hid (t.dep ≤ 1000000) := Lib.hid (by have := HR2.out rfl; omega)
  have HDu : Hid (u.dep ≤ 1000000) := Lib.hid (by have := HR3.out rfl; omega)
  clear HR1 HR2 HR3
  obtain ⟨t0, t1, t2, t3⟩ := box4 HT4.out
  obtain ⟨u0, u1, u2, u3⟩ := box4 HU4.out
  go_wp2_with fail
  refine (sizeT_ok13 _ t _ w4 [_, _, _, _] (Nat.le_refl _) (fun b hb => Nat.lt_of_lt_of_le hb HX4.out.size) (Ty.At.alike (Alike.of_ext HX4.out fun _ h => h) _ _ HTa.out)).mono ?_
  rintro e w5 ⟨z1, _, rfl, hx⟩
  have HX5 := Lib.hid (HX4.out.trans hx)
  have HV5 := Lib.hid ((hx.block _ (Blk_lt HV4.out)).trans HV4.out)
  have HT5 := Lib.hid ((hx.block _ (Blk_lt HT4.out)).trans HT4.out)
  have HU5 := Lib.hid ((hx.block _ (Blk_lt HU4.out)).trans HU4.out)
  clear hx HV4 HT4 HU4
  clear t0 t1 t2 t3 u0 u1 u2 u3
  by_cases hz1 : 200 < z1
  · go_wp2_with fail
    go_ret
    exact ⟨rfl, HX5.out⟩
  obtain ⟨t0, t1, t2, t3⟩ := box4 HT5.out
  obtain ⟨u0, u1, u2, u3⟩ := box4 HU5.out
  go_wp2_with fail
  refine (sizeT_ok13 _ u _ w5 [_, _, _, _] (Nat.le_refl _) (fun b hb => Nat.lt_of_lt_of_le hb HX5.out.size) (Ty.At.alike (Alike.of_ext HX5.out fun _ h => h) _ _ HUa.out)).mono ?_
  rintro e w6 ⟨z2, _, rfl, hx⟩
  have HX6 := Lib.hid (HX5.out.trans hx)
  have HV6 := Lib.hid ((hx.block _ (Blk_lt HV5.out)).trans HV5.out)
  have HT6 := Lib.hid ((hx.block _ (Blk_lt HT5.out)).trans HT5.out)
  have HU6 := Lib.hid ((hx.block _ (Blk_lt HU5.out)).trans HU5.out)
  clear hx HV5 HT5 HU5
  clear t0 t1 t2 t3 u0 u1 u2 u3
  by_cases hz2 : 200 < z2
  · go_wp2_with fail
    go_ret
    exact ⟨rfl, HX6.out⟩
  obtain ⟨t0, t1, t2, t3⟩ := box4 HT6.out
  obtain ⟨u0, u1, u2, u3⟩ := box4 HU6.out
  go_wp2_with fail
  refine (checkT_ok t _ w6 [_, _, _, _] HDt.out (fun b hb => Nat.lt_of_lt_of_le hb HX6.out.size) (Ty.At.alike (Alike.of_ext HX6.out fun _ h => h) _ _ HTa.out)).mono ?_
  rintro e w7 ⟨z3, hz3, rfl, hx⟩
  have HX7 := Lib.hid (HX6.out.trans hx)
  have HV7 := Lib.hid ((hx.block _ (Blk_lt HV6.out)).trans HV6.out)
  have HT7 := Lib.hid ((hx.block _ (Blk_lt HT6.out)).trans HT6.out)
  have HU7 := Lib.hid ((hx.block _ (Blk_lt HU6.out)).trans HU6.out)
  have HZ3 := Lib.hid hz3
  clear hx hz3 HV6 HT6 HU6
  clear t0 t1 t2 t3 u0 u1 u2 u3
  by_cases h3 : z3 = 0
  case neg =>
    have e3 : (z3 != 0) = true := by simpa using h3
    clear h3
    go_wp2_with fail
    go_ret
    exact ⟨rfl, HX7.out⟩
  subst h3
  obtain ⟨t0, t1, t2, t3⟩ := box4 HT7.out
  obtain ⟨u0, u1, u2, u3⟩ := box4 HU7.out
  go_wp2_with fail
  refine (checkT_ok u _ w7 [_, _, _, _] HDu.out (fun b hb => Nat.lt_of_lt_of_le hb HX7.out.size) (Ty.At.alike (Alike.of_ext HX7.out fun _ h => h) _ _ HUa.out)).mono ?_
  rintro e w8 ⟨z4, hz4, rfl, hx⟩
  have HX8 := Lib.hid (HX7.out.trans hx)
  have HV8 := Lib.hid ((hx.block _ (Blk_lt HV7.out)).trans HV7.out)
  have HT8 := Lib.hid ((hx.block _ (Blk_lt HT7.out)).trans HT7.out)
  have HU8 := Lib.hid ((hx.block _ (Blk_lt HU7.out)).trans HU7.out)
  have HZ4 := Lib.hid hz4
  clear hx hz4 HV7 HT7 HU7
  clear t0 t1 t2 t3 u0 u1 u2 u3
  by_cases h4 : z4 = 0
  case neg =>
    have e4 : (z4 != 0) = true := by simpa using h4
    clear h4
    go_wp2_with fail
    go_ret
    exact ⟨rfl, HX8.out⟩
  subst h4
  have HOt : Hid (t.ones = true) := Lib.hid (HZ3.out (by trivial)).1
  have HOu : Hid (u.ones = true) := Lib.hid (HZ4.out (by trivial)).1
  clear HZ3 HZ4
  go_wp2_with (first | refine wpList_load_cells rfl 35 _ rfl W.heap.size 0 rfl Tryz.agg27 Tryz.size27 (cs := [.int .i64 k, .bool bo, .int .i64 n, .string s, .string ut, .string ui, .slice A l c, .slice A2 l2 c2]) rfl (cells_of_row HV8.out) ?_ | refine wpList_load_cells rfl 57 _ rfl (W.heap.size + 1) 0 rfl Tryz.aggTy Tryz.sizeTy (cs := [.int .i64 t.kind, .string t.name, .slice tA t.elem.length ta, .slice tB t.attrs.length tb]) rfl (cells_of_row HT8.out) ?_ | refine wpList_load_cells rfl 57 _ rfl (W.heap.size + 1 + 1) 0 rfl Tryz.aggTy Tryz.sizeTy (cs := [.int .i64 u.kind, .string u.name, .slice uA u.elem.length ua, .slice uB u.attrs.length ub]) rfl (cells_of_row HU8.out) ?_)
  refine (canon_okR v _ w8 [_, _, _, _, _, _, _, _] HDv.out (fun b hb => Nat.lt_of_lt_of_le hb HX8.out.size) (HVa.out.alike (Alike.of_ext HX8.out fun _ h => h))).mono ?_
  rintro e w9 ⟨cw, rfl, hcw, hx⟩
  obtain ⟨k3, b3, n3, s3, ut3, ui3, A3, l3, c3, A4, l4, c4, rfl⟩ := hcw.shape
  have HX9 := Lib.hid (HX8.out.trans hx)
  have HV9 := Lib.hid ((hx.block _ (Blk_lt HV8.out)).trans HV8.out)
  have HT9 := Lib.hid ((hx.block _ (Blk_lt HT8.out)).trans HT8.out)
  have HU9 := Lib.hid ((hx.block _ (Blk_lt HU8.out)).trans HU8.out)
  have HW : Hid (InW w9 v.canon.1 [.int .i64 k3, .bool b3, .int .i64 n3, .string s3, .string ut3, .string ui3, .slice A3 l3 c3, .slice A4 l4 c4]) := Lib.hid (hcw.mono fun b hb => hb.2)
  clear hcw hx HV8 HT8 HU8
  obtain ⟨er, her⟩ : ∃ er, v.canon.2 = er := ⟨_, rfl⟩
  rw [her]
  by_cases h0 : er = 0
  case neg =>
    have e0 : (er != 0) = true := by simpa using h0
    clear h0 her
    go_wp2_with fail
    go_ret
    exact ⟨rfl, HX9.out.alloc _⟩
  subst h0
  have HIs := Lib.hid (canon_is her)
  generalize v.canon.1 = x at *
  clear her
  obtain ⟨w10, hw10⟩ : ∃ w10, w10 = w9.alloc (.cells #[.int .i64 k3, .bool b3, .int .i64 n3, .string s3, .string ut3, .string ui3, .slice A3 l3 c3, .slice A4 l4 c4] 35) := ⟨_, rfl⟩
  have hx : Ext w9 w10 := by rw [hw10]; exact (Ext.refl w9).alloc _
  have hn : w10.heap[w9.heap.size]? = some (.cells #[.int .i64 k3, .bool b3, .int .i64 n3, .string s3, .string ut3, .string ui3, .slice A3 l3 c3, .slice A4 l4 c4] 35 (0, 0)) := by rw [hw10]; exact heap_alloc_new _ _
  have HX10 := Lib.hid (HX9.out.trans hx)
  have HV10 := Lib.hid ((hx.block _ (Blk_lt HV9.out)).trans HV9.out)
  have HT10 := Lib.hid ((hx.block _ (Blk_lt HT9.out)).trans HT9.out)
  have HU10 := Lib.hid ((hx.block _ (Blk_lt HU9.out)).trans HU9.out)
  have HN10 := Lib.hid hn
  have HW10 := Lib.hid (HW.out.ext hx)
  clear hx hn HV9 HT9 HU9 HW
  obtain ⟨t0, t1, t2, t3⟩ := box4 HT10.out
  obtain ⟨u0, u1, u2, u3⟩ := box4 HU10.out
  obtain ⟨v0, v1, v2, v3, v4, v5, v6, v7⟩ := box8 HN10.out
  subst hw10
  go_wp2_with fail
  obtain ⟨w10, hw10⟩ : ∃ w10, w10 = w9.alloc (.cells #[.int .i64 k3, .bool b3, .int .i64 n3, .string s3, .string ut3, .string ui3, .slice A3 l3 c3, .slice A4 l4 c4] 35) := ⟨_, rfl⟩
  rw [← hw10] at HX10 HV10 HT10 HU10 HN10 HW10 ⊢
  clear t0 t1 t2 t3 u0 u1 u2 u3 v0 v1 v2 v3 v4 v5 v6 v7 hw10
  have tak := fun (Y : World) (hY : Ext w10 Y) (t : Ty) (ct : List Value) (ha : Ty.At (fun b => b < W.heap.size) W t ct) => takes_ok _ x (Nat.le_refl _) HIs.out x (by simp) t (fun b => b < Y.heap.size) Y [.int .i64 k3, .bool b3, .int .i64 n3, .string s3, .string ut3, .string ui3, .slice A3 l3 c3, .slice A4 l4 c4] ct (fun _ h => h) (HW10.out.ext hY) (Ty.At.mono (fun b hb => Nat.lt_of_lt_of_le hb (HX10.out.trans hY).size) _ _ (Ty.At.alike (Alike.of_ext (HX10.out.trans hY) fun _ h => h) _ _ ha))
  have takR := fun (Y : World) (hY : Ext w10 Y) (t : Ty) (ct : List Value) (ho : t.ones = true) (ha : Ty.At (fun b => b < W.heap.size) W t ct) => takesR_ok _ x (Nat.le_refl _) HIs.out x (by simp) t ho (fun b => b < Y.heap.size) Y [.int .i64 k3, .bool b3, .int .i64 n3, .string s3, .string ut3, .string ui3, .slice A3 l3 c3, .slice A4 l4 c4] ct (fun _ h => h) (HW10.out.ext hY) (Ty.At.mono (fun b hb => Nat.lt_of_lt_of_le hb (HX10.out.trans hY).size) _ _ (Ty.At.alike (Alike.of_ext (HX10.out.trans hY) fun _ h => h) _ _ ha))
  have Tak := Lib.hid tak
  have TakR := Lib.hid takR
  have HBel := Lib.hid (fun h1 h2 => Ty.takes_below t u x h1 HOu.out h2)
  clear tak takR
  refine (Tak.out w10 (Ext.refl _) t _ HTa.out).mono ?_
  rintro e w11 ⟨rfl, hx⟩
  have HX11 := Lib.hid (HX10.out.trans hx)
  have HV11 := Lib.hid ((hx.block _ (Blk_lt HV10.out)).trans HV10.out)
  have HT11 := Lib.hid ((hx.block _ (Blk_lt HT10.out)).trans HT10.out)
  have HU11 := Lib.hid ((hx.block _ (Blk_lt HU10.out)).trans HU10.out)
  have HN11 := Lib.hid ((hx.block _ (Blk_lt HN10.out)).trans HN10.out)
  have HY11 := Lib.hid hx
  clear hx HV10 HT10 HU10
  obtain ⟨rb, hrb⟩ : ∃ rb, t.takes x = rb := ⟨_, rfl⟩
  rw [hrb]
  have HRb := Lib.hid hrb
  clear hrb
  obtain ⟨t0, t1, t2, t3⟩ := box4 HT11.out
  obtain ⟨u0, u1, u2, u3⟩ := box4 HU11.out
  go_wp2_with (first | refine wpList_load_cells rfl 35 _ rfl W.heap.size 0 rfl Tryz.agg27 Tryz.size27 (cs := [.int .i64 k, .bool bo, .int .i64 n, .string s, .string ut, .string ui, .slice A l c, .slice A2 l2 c2]) rfl (cells_of_row HV11.out) ?_ | refine wpList_load_cells rfl 57 _ rfl (W.heap.size + 1) 0 rfl Tryz.aggTy Tryz.sizeTy (cs := [.int .i64 t.kind, .string t.name, .slice tA t.elem.length ta, .slice tB t.attrs.length tb]) rfl (cells_of_row HT11.out) ?_ | refine wpList_load_cells rfl 57 _ rfl (W.heap.size + 1 + 1) 0 rfl Tryz.aggTy Tryz.sizeTy (cs := [.int .i64 u.kind, .string u.name, .slice uA u.elem.length ua, .slice uB u.attrs.length ub]) rfl (cells_of_row HU11.out) ?_)
  refine (below_ok _ t u _ w11 [_, _, _, _] [_, _, _, _] (Nat.le_refl _) HOt.out HOu.out (fun b hb => Nat.lt_of_lt_of_le hb HX11.out.size) (Ty.At.alike (Alike.of_ext HX11.out fun _ h => h) _ _ HTa.out) (Ty.At.alike (Alike.of_ext HX11.out fun _ h => h) _ _ HUa.out)).mono ?_
  rintro e w12 ⟨rfl, hx⟩
  have HX12 := Lib.hid (HX11.out.trans hx)
  have HV12 := Lib.hid ((hx.block _ (Blk_lt HV11.out)).trans HV11.out)
  have HT12 := Lib.hid ((hx.block _ (Blk_lt HT11.out)).trans HT11.out)
  have HU12 := Lib.hid ((hx.block _ (Blk_lt HU11.out)).trans HU11.out)
  have HN12 := Lib.hid ((hx.block _ (Blk_lt HN11.out)).trans HN11.out)
  have HY12 := Lib.hid (HY11.out.trans hx)
  clear t0 t1 t2 t3 u0 u1 u2 u3
  clear hx HV11 HT11 HU11 HN11
  obtain ⟨bb, hbb⟩ : ∃ bb, t.under u = bb := ⟨_, rfl⟩
  rw [hbb]
  have HBb := Lib.hid hbb
  clear hbb
  obtain ⟨t0, t1, t2, t3⟩ := box4 HT12.out
  obtain ⟨u0, u1, u2, u3⟩ := box4 HU12.out
  obtain ⟨v0, v1, v2, v3, v4, v5, v6, v7⟩ := box8 HN12.out
  go_wp2_with fail
  refine (TakR.out w12 HY12.out t _ HOt.out HTa.out).mono ?_
  rintro e w13 ⟨rfl, hx⟩
  have HX13 := Lib.hid (HX12.out.trans hx)
  have HV13 := Lib.hid ((hx.block _ (Blk_lt HV12.out)).trans HV12.out)
  have HT13 := Lib.hid ((hx.block _ (Blk_lt HT12.out)).trans HT12.out)
  have HU13 := Lib.hid ((hx.block _ (Blk_lt HU12.out)).trans HU12.out)
  have HN13 := Lib.hid ((hx.block _ (Blk_lt HN12.out)).trans HN12.out)
  have HY13 := Lib.hid (HY12.out.trans hx)
  clear t0 t1 t2 t3 u0 u1 u2 u3 v0 v1 v2 v3 v4 v5 v6 v7
  clear hx HV12 HT12 HU12 HN12
  rw [HRb.out]
  obtain ⟨t0, t1, t2, t3⟩ := box4 HT13.out
  obtain ⟨u0, u1, u2, u3⟩ := box4 HU13.out
  obtain ⟨v0, v1, v2, v3, v4, v5, v6, v7⟩ := box8 HN13.out
  cases rb with
  | false =>
    go_wp2_with fail
    go_ret
    exact ⟨rfl, HX13.out⟩
  | true =>
  cases bb with
  | false =>
    go_wp2_with fail
    go_ret
    exact ⟨rfl, HX13.out⟩
  | true =>
    go_wp2_with fail
    refine (Tak.out w13 HY13.out u _ HUa.out).mono ?_
    rintro e w14 ⟨rfl, hx⟩
    rw [HBel.out HBb.out HRb.out]
    have HX14 := Lib.hid (HX13.out.trans hx)
    clear hx
    go_wp2_with fail
    go_ret
    exact ⟨rfl, HX14.out⟩
end Go.Proofs.YtjllolagcdjlnaaGreat
