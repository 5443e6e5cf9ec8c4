/-
  Whether a scope takes an entity, as the document has it: all kinds but OneOf. The conditions: what is handed in lies in memory as it should; the entities are as they must be.
-/
import Derived.Test.YtebfoimbdljbmaaGreatDoorEvHQ
import Derived.Test.YtebfoimbdljbmaaGreatDoorIn6Q
namespace Go.Proofs.YtebfoimbdljbmaaGreatDoor
open Go.RowKit
set_option linter.unusedVariables false in
set_option maxRecDepth 100000 in
set_option maxHeartbeats 4000000 in
theorem ref_holds_0t (S : Nat → Prop) (c : List Ent) (cv : Value) (ty d1 d2 u1 u2 : ByteArray) (l : List Uid) (lA : Option Addr) (lc : Nat) (w : World) (hS : ∀ b, S b → b < w.heap.size) (hu : FitU (u1, u2)) (hd : FitU (d1, d2)) (hst : entR.RowsAt S w c cv) (ht : Tidy c) (hl : uidR.RowsAt (fun b => b < w.heap.size) w l (.slice lA l.length lc)) :
    Calls Tryz.prog 21 #[.agg ([.int .i64 0, .string ty, .string d1, .string d2, .bool true, .slice lA l.length lc] : List Value).toArray, .agg #[.string u1, .string u2], cv] w (HoldsAns ((Scp.mk 0 ty (d1, d2) true l).holds c (u1, u2)) w) := by
  obtain ⟨res, hres⟩ : ∃ res, (Scp.mk 0 ty (d1, d2) true l).holds c (u1, u2) = res := ⟨_, rfl⟩
  rw [hres]
  obtain ⟨p0, p1, ps, px⟩ := heapA2 w (.cells #[.int .i64 0, .string ty, .string d1, .string d2, .bool true, .slice lA l.length lc] 52) (.cells #[.string u1, .string u2] 23)
  have HP0 := Lib.hid p0
  have HU0 := Lib.hid p1
  have HX0 := Lib.hid px
  clear p0 p1 ps px
  have HDc := Lib.hid (cells_mid (pre := [.int .i64 0, .string ty]) (cs := [.string d1, .string d2]) (r := [.bool true, .slice lA l.length lc]) HP0.out)
  have hc := in6_ok S c cv (u1, u2) (d1, d2) ((w.alloc (.cells #[.int .i64 0, .string ty, .string d1, .string d2, .bool true, .slice lA l.length lc] 52)).alloc (.cells #[.string u1, .string u2] 23)) (fun b hb => Nat.lt_of_lt_of_le (hS b hb) HX0.out.size) (hst.alike (Alike.of_ext HX0.out hS)) ht hu hd
  obtain ⟨s, hs⟩ : ∃ s, inB c (u1, u2) (d1, d2) = s := ⟨_, rfl⟩
  rw [hs] at hc
  have HC := Lib.hid hc
  have hh : res = (true, 0) := by rw [← hres]; unfold Scp.holds; simp
  subst hh
  clear hres hS hu hd hst ht hl hs hc
  go_enter Tryz.func21, Tryz.ntmps21
  go_wp2_with (first | (with_reducible refine at_load ?_; refine wpList_load_cells rfl 23 _ rfl (w.heap.size + 1) 0 rfl Tryz.agg23 Tryz.size23 (cs := [.string u1, .string u2]) rfl (cells_of_row HU0.out) ?_) | (with_reducible refine at_load ?_; refine wpList_load_cells rfl 23 _ rfl w.heap.size 2 rfl Tryz.agg23 Tryz.size23 (cs := [.string d1, .string d2]) rfl HDc.out ?_))
  refine HC.out.mono ?_
  rintro e1 w1 ⟨rfl, hx1⟩
  have HX1 := Lib.hid (HX0.out.trans hx1)
  have HP1 := Lib.hid ((hx1.block _ (Blk_lt HP0.out)).trans HP0.out)
  have HU1 := Lib.hid ((hx1.block _ (Blk_lt HU0.out)).trans HU0.out)
  have HDc1 : Hid (CellsAt w1 w.heap.size 2 [.string d1, .string d2]) := Lib.hid (cells_mid (pre := [.int .i64 0, .string ty]) (cs := [.string d1, .string d2]) (r := [.bool true, .slice lA l.length lc]) HP1.out)
  have c0 : w1.cell? ⟨w.heap.size, 0, none⟩ = some (.int .i64 0) := cell_of_row _ _ 0 _ _ _ HP1.out
  have c1 : w1.cell? ⟨w.heap.size, 1, none⟩ = some (.string ty) := cell_of_row _ _ 1 _ _ _ HP1.out
  have c2 : w1.cell? ⟨w.heap.size + 1, 0, none⟩ = some (.string u1) := cell_of_row _ _ 0 _ _ _ HU1.out
  clear hx1
  go_wp2_with (first | (with_reducible refine at_load ?_; refine wpList_load_cells rfl 23 _ rfl (w.heap.size + 1) 0 rfl Tryz.agg23 Tryz.size23 (cs := [.string u1, .string u2]) rfl (cells_of_row HU1.out) ?_) | (with_reducible refine at_load ?_; refine wpList_load_cells rfl 23 _ rfl w.heap.size 2 rfl Tryz.agg23 Tryz.size23 (cs := [.string d1, .string d2]) rfl HDc1.out ?_))
  go_ret2
  exact ⟨rfl, HX1.out⟩
set_option linter.unusedVariables false in
set_option maxRecDepth 100000 in
set_option maxHeartbeats 4000000 in
theorem ref_holds_0f (S : Nat → Prop) (c : List Ent) (cv : Value) (ty d1 d2 u1 u2 : ByteArray) (l : List Uid) (lA : Option Addr) (lc : Nat) (w : World) (hS : ∀ b, S b → b < w.heap.size) (hu : FitU (u1, u2)) (hd : FitU (d1, d2)) (hst : entR.RowsAt S w c cv) (ht : Tidy c) (hl : uidR.RowsAt (fun b => b < w.heap.size) w l (.slice lA l.length lc)) :
    Calls Tryz.prog 21 #[.agg ([.int .i64 0, .string ty, .string d1, .string d2, .bool false, .slice lA l.length lc] : List Value).toArray, .agg #[.string u1, .string u2], cv] w (HoldsAns ((Scp.mk 0 ty (d1, d2) false l).holds c (u1, u2)) w) := by
  obtain ⟨res, hres⟩ : ∃ res, (Scp.mk 0 ty (d1, d2) false l).holds c (u1, u2) = res := ⟨_, rfl⟩
  rw [hres]
  obtain ⟨p0, p1, ps, px⟩ := heapA2 w (.cells #[.int .i64 0, .string ty, .string d1, .string d2, .bool false, .slice lA l.length lc] 52) (.cells #[.string u1, .string u2] 23)
  have HP0 := Lib.hid p0
  have HU0 := Lib.hid p1
  have HX0 := Lib.hid px
  clear p0 p1 ps px
  have HDc := Lib.hid (cells_mid (pre := [.int .i64 0, .string ty]) (cs := [.string d1, .string d2]) (r := [.bool false, .slice lA l.length lc]) HP0.out)
  have hc := in6_ok S c cv (u1, u2) (d1, d2) ((w.alloc (.cells #[.int .i64 0, .string ty, .string d1, .string d2, .bool false, .slice lA l.length lc] 52)).alloc (.cells #[.string u1, .string u2] 23)) (fun b hb => Nat.lt_of_lt_of_le (hS b hb) HX0.out.size) (hst.alike (Alike.of_ext HX0.out hS)) ht hu hd
  obtain ⟨s, hs⟩ : ∃ s, inB c (u1, u2) (d1, d2) = s := ⟨_, rfl⟩
  rw [hs] at hc
  have HC := Lib.hid hc
  have hh : res = (true, 0) := by rw [← hres]; unfold Scp.holds; simp
  subst hh
  clear hres hS hu hd hst ht hl hs hc
  go_enter Tryz.func21, Tryz.ntmps21
  go_wp2_with (first | (with_reducible refine at_load ?_; refine wpList_load_cells rfl 23 _ rfl (w.heap.size + 1) 0 rfl Tryz.agg23 Tryz.size23 (cs := [.string u1, .string u2]) rfl (cells_of_row HU0.out) ?_) | (with_reducible refine at_load ?_; refine wpList_load_cells rfl 23 _ rfl w.heap.size 2 rfl Tryz.agg23 Tryz.size23 (cs := [.string d1, .string d2]) rfl HDc.out ?_))
  refine HC.out.mono ?_
  rintro e1 w1 ⟨rfl, hx1⟩
  have HX1 := Lib.hid (HX0.out.trans hx1)
  have HP1 := Lib.hid ((hx1.block _ (Blk_lt HP0.out)).trans HP0.out)
  have HU1 := Lib.hid ((hx1.block _ (Blk_lt HU0.out)).trans HU0.out)
  have HDc1 : Hid (CellsAt w1 w.heap.size 2 [.string d1, .string d2]) := Lib.hid (cells_mid (pre := [.int .i64 0, .string ty]) (cs := [.string d1, .string d2]) (r := [.bool false, .slice lA l.length lc]) HP1.out)
  have c0 : w1.cell? ⟨w.heap.size, 0, none⟩ = some (.int .i64 0) := cell_of_row _ _ 0 _ _ _ HP1.out
  have c1 : w1.cell? ⟨w.heap.size, 1, none⟩ = some (.string ty) := cell_of_row _ _ 1 _ _ _ HP1.out
  have c2 : w1.cell? ⟨w.heap.size + 1, 0, none⟩ = some (.string u1) := cell_of_row _ _ 0 _ _ _ HU1.out
  clear hx1
  go_wp2_with (first | (with_reducible refine at_load ?_; refine wpList_load_cells rfl 23 _ rfl (w.heap.size + 1) 0 rfl Tryz.agg23 Tryz.size23 (cs := [.string u1, .string u2]) rfl (cells_of_row HU1.out) ?_) | (with_reducible refine at_load ?_; refine wpList_load_cells rfl 23 _ rfl w.heap.size 2 rfl Tryz.agg23 Tryz.size23 (cs := [.string d1, .string d2]) rfl HDc1.out ?_))
  go_ret2
  exact ⟨rfl, HX1.out⟩
set_option linter.unusedVariables false in
set_option maxRecDepth 100000 in
set_option maxHeartbeats 4000000 in
theorem ref_holds_1t (S : Nat → Prop) (c : List Ent) (cv : Value) (ty d1 d2 u1 u2 : ByteArray) (l : List Uid) (lA : Option Addr) (lc : Nat) (w : World) (hS : ∀ b, S b → b < w.heap.size) (hu : FitU (u1, u2)) (hd : FitU (d1, d2)) (hst : entR.RowsAt S w c cv) (ht : Tidy c) (hl : uidR.RowsAt (fun b => b < w.heap.size) w l (.slice lA l.length lc)) :
    Calls Tryz.prog 21 #[.agg ([.int .i64 1, .string ty, .string d1, .string d2, .bool true, .slice lA l.length lc] : List Value).toArray, .agg #[.string u1, .string u2], cv] w (HoldsAns ((Scp.mk 1 ty (d1, d2) true l).holds c (u1, u2)) w) := by
  obtain ⟨res, hres⟩ : ∃ res, (Scp.mk 1 ty (d1, d2) true l).holds c (u1, u2) = res := ⟨_, rfl⟩
  rw [hres]
  obtain ⟨p0, p1, ps, px⟩ := heapA2 w (.cells #[.int .i64 1, .string ty, .string d1, .string d2, .bool true, .slice lA l.length lc] 52) (.cells #[.string u1, .string u2] 23)
  have HP0 := Lib.hid p0
  have HU0 := Lib.hid p1
  have HX0 := Lib.hid px
  clear p0 p1 ps px
  have HDc := Lib.hid (cells_mid (pre := [.int .i64 1, .string ty]) (cs := [.string d1, .string d2]) (r := [.bool true, .slice lA l.length lc]) HP0.out)
  have hh : res = (false, 32) := by rw [← hres]; unfold Scp.holds; simp
  subst hh
  clear hres hS hu hd hst ht hl
  go_enter Tryz.func21, Tryz.ntmps21
  go_wp2_with (first | (with_reducible refine at_load ?_; refine wpList_load_cells rfl 23 _ rfl (w.heap.size + 1) 0 rfl Tryz.agg23 Tryz.size23 (cs := [.string u1, .string u2]) rfl (cells_of_row HU0.out) ?_) | (with_reducible refine at_load ?_; refine wpList_load_cells rfl 23 _ rfl w.heap.size 2 rfl Tryz.agg23 Tryz.size23 (cs := [.string d1, .string d2]) rfl HDc.out ?_))
  go_ret2
  exact ⟨rfl, HX0.out⟩
set_option linter.unusedVariables false in
set_option maxRecDepth 100000 in
set_option maxHeartbeats 4000000 in
theorem ref_holds_1f (S : Nat → Prop) (c : List Ent) (cv : Value) (ty d1 d2 u1 u2 : ByteArray) (l : List Uid) (lA : Option Addr) (lc : Nat) (w : World) (hS : ∀ b, S b → b < w.heap.size) (hu : FitU (u1, u2)) (hd : FitU (d1, d2)) (hst : entR.RowsAt S w c cv) (ht : Tidy c) (hl : uidR.RowsAt (fun b => b < w.heap.size) w l (.slice lA l.length lc)) :
    Calls Tryz.prog 21 #[.agg ([.int .i64 1, .string ty, .string d1, .string d2, .bool false, .slice lA l.length lc] : List Value).toArray, .agg #[.string u1, .string u2], cv] w (HoldsAns ((Scp.mk 1 ty (d1, d2) false l).holds c (u1, u2)) w) := by
  obtain ⟨res, hres⟩ : ∃ res, (Scp.mk 1 ty (d1, d2) false l).holds c (u1, u2) = res := ⟨_, rfl⟩
  rw [hres]
  obtain ⟨p0, p1, ps, px⟩ := heapA2 w (.cells #[.int .i64 1, .string ty, .string d1, .string d2, .bool false, .slice lA l.length lc] 52) (.cells #[.string u1, .string u2] 23)
  have HP0 := Lib.hid p0
  have HU0 := Lib.hid p1
  have HX0 := Lib.hid px
  clear p0 p1 ps px
  have HDc := Lib.hid (cells_mid (pre := [.int .i64 1, .string ty]) (cs := [.string d1, .string d2]) (r := [.bool false, .slice lA l.length lc]) HP0.out)
  have hc := in6_ok S c cv (u1, u2) (d1, d2) ((w.alloc (.cells #[.int .i64 1, .string ty, .string d1, .string d2, .bool false, .slice lA l.length lc] 52)).alloc (.cells #[.string u1, .string u2] 23)) (fun b hb => Nat.lt_of_lt_of_le (hS b hb) HX0.out.size) (hst.alike (Alike.of_ext HX0.out hS)) ht hu hd
  obtain ⟨s, hs⟩ : ∃ s, inB c (u1, u2) (d1, d2) = s := ⟨_, rfl⟩
  rw [hs] at hc
  have HC := Lib.hid hc
  obtain ⟨tb, htb⟩ : ∃ b, decide ((u1, u2) = (d1, d2)) = b := ⟨_, rfl⟩
  have tq : ∀ w, (binOp .eql 23 (.agg #[.string u1, .string u2]) (.agg #[.string d1, .string d2])).run Tryz.prog w = .ok (.bool tb) w := fun w => by rw [← htb]; exact eqlU (u1, u2) (d1, d2) w
  have tq' : ∀ w, (Op.equalIn 10000 23 (.agg #[.string u1, .string u2]) (.agg #[.string d1, .string d2])).run Tryz.prog w = .ok tb w := fun w => by rw [← htb]; exact eqlU_in (u1, u2) (d1, d2) w
  have tg : ∀ (p q : Operand) w, (eqGuard .eql 23 p q (.agg #[.string u1, .string u2]) (.agg #[.string d1, .string d2])).run Tryz.prog w = .ok () w := fun p q w => guardU _ p q (u1, u2) (d1, d2) w
  have hh : res = (tb, 0) := by rw [← hres, ← htb]; unfold Scp.holds; simp
  subst hh
  clear hres hS hu hd hst ht hl htb hs hc
  go_enter Tryz.func21, Tryz.ntmps21
  go_wp2_with (first | (with_reducible refine at_load ?_; refine wpList_load_cells rfl 23 _ rfl (w.heap.size + 1) 0 rfl Tryz.agg23 Tryz.size23 (cs := [.string u1, .string u2]) rfl (cells_of_row HU0.out) ?_) | (with_reducible refine at_load ?_; refine wpList_load_cells rfl 23 _ rfl w.heap.size 2 rfl Tryz.agg23 Tryz.size23 (cs := [.string d1, .string d2]) rfl HDc.out ?_))
  refine HC.out.mono ?_
  rintro e1 w1 ⟨rfl, hx1⟩
  have HX1 := Lib.hid (HX0.out.trans hx1)
  have HP1 := Lib.hid ((hx1.block _ (Blk_lt HP0.out)).trans HP0.out)
  have HU1 := Lib.hid ((hx1.block _ (Blk_lt HU0.out)).trans HU0.out)
  have HDc1 : Hid (CellsAt w1 w.heap.size 2 [.string d1, .string d2]) := Lib.hid (cells_mid (pre := [.int .i64 1, .string ty]) (cs := [.string d1, .string d2]) (r := [.bool false, .slice lA l.length lc]) HP1.out)
  have c0 : w1.cell? ⟨w.heap.size, 0, none⟩ = some (.int .i64 1) := cell_of_row _ _ 0 _ _ _ HP1.out
  have c1 : w1.cell? ⟨w.heap.size, 1, none⟩ = some (.string ty) := cell_of_row _ _ 1 _ _ _ HP1.out
  have c2 : w1.cell? ⟨w.heap.size + 1, 0, none⟩ = some (.string u1) := cell_of_row _ _ 0 _ _ _ HU1.out
  clear hx1
  go_wp2_with (first | (with_reducible refine at_load ?_; refine wpList_load_cells rfl 23 _ rfl (w.heap.size + 1) 0 rfl Tryz.agg23 Tryz.size23 (cs := [.string u1, .string u2]) rfl (cells_of_row HU1.out) ?_) | (with_reducible refine at_load ?_; refine wpList_load_cells rfl 23 _ rfl w.heap.size 2 rfl Tryz.agg23 Tryz.size23 (cs := [.string d1, .string d2]) rfl HDc1.out ?_))
  go_ret2
  exact ⟨rfl, HX1.out⟩
set_option linter.unusedVariables false in
set_option maxRecDepth 100000 in
set_option maxHeartbeats 4000000 in
theorem ref_holds_2t (S : Nat → Prop) (c : List Ent) (cv : Value) (ty d1 d2 u1 u2 : ByteArray) (l : List Uid) (lA : Option Addr) (lc : Nat) (w : World) (hS : ∀ b, S b → b < w.heap.size) (hu : FitU (u1, u2)) (hd : FitU (d1, d2)) (hst : entR.RowsAt S w c cv) (ht : Tidy c) (hl : uidR.RowsAt (fun b => b < w.heap.size) w l (.slice lA l.length lc)) :
    Calls Tryz.prog 21 #[.agg ([.int .i64 2, .string ty, .string d1, .string d2, .bool true, .slice lA l.length lc] : List Value).toArray, .agg #[.string u1, .string u2], cv] w (HoldsAns ((Scp.mk 2 ty (d1, d2) true l).holds c (u1, u2)) w) := by
  obtain ⟨res, hres⟩ : ∃ res, (Scp.mk 2 ty (d1, d2) true l).holds c (u1, u2) = res := ⟨_, rfl⟩
  rw [hres]
  obtain ⟨p0, p1, ps, px⟩ := heapA2 w (.cells #[.int .i64 2, .string ty, .string d1, .string d2, .bool true, .slice lA l.length lc] 52) (.cells #[.string u1, .string u2] 23)
  have HP0 := Lib.hid p0
  have HU0 := Lib.hid p1
  have HX0 := Lib.hid px
  clear p0 p1 ps px
  have HDc := Lib.hid (cells_mid (pre := [.int .i64 2, .string ty]) (cs := [.string d1, .string d2]) (r := [.bool true, .slice lA l.length lc]) HP0.out)
  have hh : res = (false, 32) := by rw [← hres]; unfold Scp.holds; simp
  subst hh
  clear hres hS hu hd hst ht hl
  go_enter Tryz.func21, Tryz.ntmps21
  go_wp2_with (first | (with_reducible refine at_load ?_; refine wpList_load_cells rfl 23 _ rfl (w.heap.size + 1) 0 rfl Tryz.agg23 Tryz.size23 (cs := [.string u1, .string u2]) rfl (cells_of_row HU0.out) ?_) | (with_reducible refine at_load ?_; refine wpList_load_cells rfl 23 _ rfl w.heap.size 2 rfl Tryz.agg23 Tryz.size23 (cs := [.string d1, .string d2]) rfl HDc.out ?_))
  go_ret2
  exact ⟨rfl, HX0.out⟩
set_option linter.unusedVariables false in
set_option maxRecDepth 100000 in
set_option maxHeartbeats 4000000 in
theorem ref_holds_2f (S : Nat → Prop) (c : List Ent) (cv : Value) (ty d1 d2 u1 u2 : ByteArray) (l : List Uid) (lA : Option Addr) (lc : Nat) (w : World) (hS : ∀ b, S b → b < w.heap.size) (hu : FitU (u1, u2)) (hd : FitU (d1, d2)) (hst : entR.RowsAt S w c cv) (ht : Tidy c) (hl : uidR.RowsAt (fun b => b < w.heap.size) w l (.slice lA l.length lc)) :
    Calls Tryz.prog 21 #[.agg ([.int .i64 2, .string ty, .string d1, .string d2, .bool false, .slice lA l.length lc] : List Value).toArray, .agg #[.string u1, .string u2], cv] w (HoldsAns ((Scp.mk 2 ty (d1, d2) false l).holds c (u1, u2)) w) := by
  obtain ⟨res, hres⟩ : ∃ res, (Scp.mk 2 ty (d1, d2) false l).holds c (u1, u2) = res := ⟨_, rfl⟩
  rw [hres]
  obtain ⟨p0, p1, ps, px⟩ := heapA2 w (.cells #[.int .i64 2, .string ty, .string d1, .string d2, .bool false, .slice lA l.length lc] 52) (.cells #[.string u1, .string u2] 23)
  have HP0 := Lib.hid p0
  have HU0 := Lib.hid p1
  have HX0 := Lib.hid px
  clear p0 p1 ps px
  have HDc := Lib.hid (cells_mid (pre := [.int .i64 2, .string ty]) (cs := [.string d1, .string d2]) (r := [.bool false, .slice lA l.length lc]) HP0.out)
  have hc := in6_ok S c cv (u1, u2) (d1, d2) ((w.alloc (.cells #[.int .i64 2, .string ty, .string d1, .string d2, .bool false, .slice lA l.length lc] 52)).alloc (.cells #[.string u1, .string u2] 23)) (fun b hb => Nat.lt_of_lt_of_le (hS b hb) HX0.out.size) (hst.alike (Alike.of_ext HX0.out hS)) ht hu hd
  obtain ⟨s, hs⟩ : ∃ s, inB c (u1, u2) (d1, d2) = s := ⟨_, rfl⟩
  rw [hs] at hc
  have HC := Lib.hid hc
  have hh : res = (s, 0) := by rw [← hres, ← hs]; unfold Scp.holds; simp
  subst hh
  clear hres hS hu hd hst ht hl hs hc
  go_enter Tryz.func21, Tryz.ntmps21
  go_wp2_with (first | (with_reducible refine at_load ?_; refine wpList_load_cells rfl 23 _ rfl (w.heap.size + 1) 0 rfl Tryz.agg23 Tryz.size23 (cs := [.string u1, .string u2]) rfl (cells_of_row HU0.out) ?_) | (with_reducible refine at_load ?_; refine wpList_load_cells rfl 23 _ rfl w.heap.size 2 rfl Tryz.agg23 Tryz.size23 (cs := [.string d1, .string d2]) rfl HDc.out ?_))
  refine HC.out.mono ?_
  rintro e1 w1 ⟨rfl, hx1⟩
  have HX1 := Lib.hid (HX0.out.trans hx1)
  have HP1 := Lib.hid ((hx1.block _ (Blk_lt HP0.out)).trans HP0.out)
  have HU1 := Lib.hid ((hx1.block _ (Blk_lt HU0.out)).trans HU0.out)
  have HDc1 : Hid (CellsAt w1 w.heap.size 2 [.string d1, .string d2]) := Lib.hid (cells_mid (pre := [.int .i64 2, .string ty]) (cs := [.string d1, .string d2]) (r := [.bool false, .slice lA l.length lc]) HP1.out)
  have c0 : w1.cell? ⟨w.heap.size, 0, none⟩ = some (.int .i64 2) := cell_of_row _ _ 0 _ _ _ HP1.out
  have c1 : w1.cell? ⟨w.heap.size, 1, none⟩ = some (.string ty) := cell_of_row _ _ 1 _ _ _ HP1.out
  have c2 : w1.cell? ⟨w.heap.size + 1, 0, none⟩ = some (.string u1) := cell_of_row _ _ 0 _ _ _ HU1.out
  clear hx1
  go_wp2_with (first | (with_reducible refine at_load ?_; refine wpList_load_cells rfl 23 _ rfl (w.heap.size + 1) 0 rfl Tryz.agg23 Tryz.size23 (cs := [.string u1, .string u2]) rfl (cells_of_row HU1.out) ?_) | (with_reducible refine at_load ?_; refine wpList_load_cells rfl 23 _ rfl w.heap.size 2 rfl Tryz.agg23 Tryz.size23 (cs := [.string d1, .string d2]) rfl HDc1.out ?_))
  go_ret2
  exact ⟨rfl, HX1.out⟩
set_option linter.unusedVariables false in
set_option maxRecDepth 100000 in
set_option maxHeartbeats 4000000 in
theorem ref_holds_3t (S : Nat → Prop) (c : List Ent) (cv : Value) (ty d1 d2 u1 u2 : ByteArray) (l : List Uid) (lA : Option Addr) (lc : Nat) (w : World) (hS : ∀ b, S b → b < w.heap.size) (hu : FitU (u1, u2)) (hd : FitU (d1, d2)) (hst : entR.RowsAt S w c cv) (ht : Tidy c) (hl : uidR.RowsAt (fun b => b < w.heap.size) w l (.slice lA l.length lc)) :
    Calls Tryz.prog 21 #[.agg ([.int .i64 3, .string ty, .string d1, .string d2, .bool true, .slice lA l.length lc] : List Value).toArray, .agg #[.string u1, .string u2], cv] w (HoldsAns ((Scp.mk 3 ty (d1, d2) true l).holds c (u1, u2)) w) := by
  obtain ⟨res, hres⟩ : ∃ res, (Scp.mk 3 ty (d1, d2) true l).holds c (u1, u2) = res := ⟨_, rfl⟩
  rw [hres]
  obtain ⟨p0, p1, ps, px⟩ := heapA2 w (.cells #[.int .i64 3, .string ty, .string d1, .string d2, .bool true, .slice lA l.length lc] 52) (.cells #[.string u1, .string u2] 23)
  have HP0 := Lib.hid p0
  have HU0 := Lib.hid p1
  have HX0 := Lib.hid px
  clear p0 p1 ps px
  have HDc := Lib.hid (cells_mid (pre := [.int .i64 3, .string ty]) (cs := [.string d1, .string d2]) (r := [.bool true, .slice lA l.length lc]) HP0.out)
  have hc := in6_ok S c cv (u1, u2) (d1, d2) ((w.alloc (.cells #[.int .i64 3, .string ty, .string d1, .string d2, .bool true, .slice lA l.length lc] 52)).alloc (.cells #[.string u1, .string u2] 23)) (fun b hb => Nat.lt_of_lt_of_le (hS b hb) HX0.out.size) (hst.alike (Alike.of_ext HX0.out hS)) ht hu hd
  obtain ⟨s, hs⟩ : ∃ s, inB c (u1, u2) (d1, d2) = s := ⟨_, rfl⟩
  rw [hs] at hc
  have HC := Lib.hid hc
  have hq := bytes_dec u1 ty
  obtain ⟨r, hr⟩ : ∃ r, (u1.toList == ty.toList) = r := ⟨_, rfl⟩
  rw [hr] at hq
  have hh : res = (r, 0) := by rw [← hres, ← hq]; unfold Scp.holds; simp
  subst hh
  clear hres hS hu hd hst ht hl hs hc hq
  go_enter Tryz.func21, Tryz.ntmps21
  go_wp2_with (first | (with_reducible refine at_load ?_; refine wpList_load_cells rfl 23 _ rfl (w.heap.size + 1) 0 rfl Tryz.agg23 Tryz.size23 (cs := [.string u1, .string u2]) rfl (cells_of_row HU0.out) ?_) | (with_reducible refine at_load ?_; refine wpList_load_cells rfl 23 _ rfl w.heap.size 2 rfl Tryz.agg23 Tryz.size23 (cs := [.string d1, .string d2]) rfl HDc.out ?_))
  refine HC.out.mono ?_
  rintro e1 w1 ⟨rfl, hx1⟩
  have HX1 := Lib.hid (HX0.out.trans hx1)
  have HP1 := Lib.hid ((hx1.block _ (Blk_lt HP0.out)).trans HP0.out)
  have HU1 := Lib.hid ((hx1.block _ (Blk_lt HU0.out)).trans HU0.out)
  have HDc1 : Hid (CellsAt w1 w.heap.size 2 [.string d1, .string d2]) := Lib.hid (cells_mid (pre := [.int .i64 3, .string ty]) (cs := [.string d1, .string d2]) (r := [.bool true, .slice lA l.length lc]) HP1.out)
  have c0 : w1.cell? ⟨w.heap.size, 0, none⟩ = some (.int .i64 3) := cell_of_row _ _ 0 _ _ _ HP1.out
  have c1 : w1.cell? ⟨w.heap.size, 1, none⟩ = some (.string ty) := cell_of_row _ _ 1 _ _ _ HP1.out
  have c2 : w1.cell? ⟨w.heap.size + 1, 0, none⟩ = some (.string u1) := cell_of_row _ _ 0 _ _ _ HU1.out
  clear hx1
  go_wp2_with (first | (with_reducible refine at_load ?_; refine wpList_load_cells rfl 23 _ rfl (w.heap.size + 1) 0 rfl Tryz.agg23 Tryz.size23 (cs := [.string u1, .string u2]) rfl (cells_of_row HU1.out) ?_) | (with_reducible refine at_load ?_; refine wpList_load_cells rfl 23 _ rfl w.heap.size 2 rfl Tryz.agg23 Tryz.size23 (cs := [.string d1, .string d2]) rfl HDc1.out ?_))
  go_ret2
  exact ⟨rfl, HX1.out⟩
set_option linter.unusedVariables false in
set_option maxRecDepth 100000 in
set_option maxHeartbeats 4000000 in
theorem ref_holds_3f (S : Nat → Prop) (c : List Ent) (cv : Value) (ty d1 d2 u1 u2 : ByteArray) (l : List Uid) (lA : Option Addr) (lc : Nat) (w : World) (hS : ∀ b, S b → b < w.heap.size) (hu : FitU (u1, u2)) (hd : FitU (d1, d2)) (hst : entR.RowsAt S w c cv) (ht : Tidy c) (hl : uidR.RowsAt (fun b => b < w.heap.size) w l (.slice lA l.length lc)) :
    Calls Tryz.prog 21 #[.agg ([.int .i64 3, .string ty, .string d1, .string d2, .bool false, .slice lA l.length lc] : List Value).toArray, .agg #[.string u1, .string u2], cv] w (HoldsAns ((Scp.mk 3 ty (d1, d2) false l).holds c (u1, u2)) w) := by
  obtain ⟨res, hres⟩ : ∃ res, (Scp.mk 3 ty (d1, d2) false l).holds c (u1, u2) = res := ⟨_, rfl⟩
  rw [hres]
  obtain ⟨p0, p1, ps, px⟩ := heapA2 w (.cells #[.int .i64 3, .string ty, .string d1, .string d2, .bool false, .slice lA l.length lc] 52) (.cells #[.string u1, .string u2] 23)
  have HP0 := Lib.hid p0
  have HU0 := Lib.hid p1
  have HX0 := Lib.hid px
  clear p0 p1 ps px
  have HDc := Lib.hid (cells_mid (pre := [.int .i64 3, .string ty]) (cs := [.string d1, .string d2]) (r := [.bool false, .slice lA l.length lc]) HP0.out)
  have hc := in6_ok S c cv (u1, u2) (d1, d2) ((w.alloc (.cells #[.int .i64 3, .string ty, .string d1, .string d2, .bool false, .slice lA l.length lc] 52)).alloc (.cells #[.string u1, .string u2] 23)) (fun b hb => Nat.lt_of_lt_of_le (hS b hb) HX0.out.size) (hst.alike (Alike.of_ext HX0.out hS)) ht hu hd
  obtain ⟨s, hs⟩ : ∃ s, inB c (u1, u2) (d1, d2) = s := ⟨_, rfl⟩
  rw [hs] at hc
  have HC := Lib.hid hc
  have hq := bytes_dec u1 ty
  obtain ⟨r, hr⟩ : ∃ r, (u1.toList == ty.toList) = r := ⟨_, rfl⟩
  rw [hr] at hq
  have hh : res = (r, 0) := by rw [← hres, ← hq]; unfold Scp.holds; simp
  subst hh
  clear hres hS hu hd hst ht hl hs hc hq
  go_enter Tryz.func21, Tryz.ntmps21
  go_wp2_with (first | (with_reducible refine at_load ?_; refine wpList_load_cells rfl 23 _ rfl (w.heap.size + 1) 0 rfl Tryz.agg23 Tryz.size23 (cs := [.string u1, .string u2]) rfl (cells_of_row HU0.out) ?_) | (with_reducible refine at_load ?_; refine wpList_load_cells rfl 23 _ rfl w.heap.size 2 rfl Tryz.agg23 Tryz.size23 (cs := [.string d1, .string d2]) rfl HDc.out ?_))
  refine HC.out.mono ?_
  rintro e1 w1 ⟨rfl, hx1⟩
  have HX1 := Lib.hid (HX0.out.trans hx1)
  have HP1 := Lib.hid ((hx1.block _ (Blk_lt HP0.out)).trans HP0.out)
  have HU1 := Lib.hid ((hx1.block _ (Blk_lt HU0.out)).trans HU0.out)
  have HDc1 : Hid (CellsAt w1 w.heap.size 2 [.string d1, .string d2]) := Lib.hid (cells_mid (pre := [.int .i64 3, .string ty]) (cs := [.string d1, .string d2]) (r := [.bool false, .slice lA l.length lc]) HP1.out)
  have c0 : w1.cell? ⟨w.heap.size, 0, none⟩ = some (.int .i64 3) := cell_of_row _ _ 0 _ _ _ HP1.out
  have c1 : w1.cell? ⟨w.heap.size, 1, none⟩ = some (.string ty) := cell_of_row _ _ 1 _ _ _ HP1.out
  have c2 : w1.cell? ⟨w.heap.size + 1, 0, none⟩ = some (.string u1) := cell_of_row _ _ 0 _ _ _ HU1.out
  clear hx1
  go_wp2_with (first | (with_reducible refine at_load ?_; refine wpList_load_cells rfl 23 _ rfl (w.heap.size + 1) 0 rfl Tryz.agg23 Tryz.size23 (cs := [.string u1, .string u2]) rfl (cells_of_row HU1.out) ?_) | (with_reducible refine at_load ?_; refine wpList_load_cells rfl 23 _ rfl w.heap.size 2 rfl Tryz.agg23 Tryz.size23 (cs := [.string d1, .string d2]) rfl HDc1.out ?_))
  go_ret2
  exact ⟨rfl, HX1.out⟩
set_option linter.unusedVariables false in
set_option maxRecDepth 100000 in
set_option maxHeartbeats 4000000 in
theorem ref_holds_4t (S : Nat → Prop) (c : List Ent) (cv : Value) (ty d1 d2 u1 u2 : ByteArray) (l : List Uid) (lA : Option Addr) (lc : Nat) (w : World) (hS : ∀ b, S b → b < w.heap.size) (hu : FitU (u1, u2)) (hd : FitU (d1, d2)) (hst : entR.RowsAt S w c cv) (ht : Tidy c) (hl : uidR.RowsAt (fun b => b < w.heap.size) w l (.slice lA l.length lc)) :
    Calls Tryz.prog 21 #[.agg ([.int .i64 4, .string ty, .string d1, .string d2, .bool true, .slice lA l.length lc] : List Value).toArray, .agg #[.string u1, .string u2], cv] w (HoldsAns ((Scp.mk 4 ty (d1, d2) true l).holds c (u1, u2)) w) := by
  obtain ⟨res, hres⟩ : ∃ res, (Scp.mk 4 ty (d1, d2) true l).holds c (u1, u2) = res := ⟨_, rfl⟩
  rw [hres]
  obtain ⟨p0, p1, ps, px⟩ := heapA2 w (.cells #[.int .i64 4, .string ty, .string d1, .string d2, .bool true, .slice lA l.length lc] 52) (.cells #[.string u1, .string u2] 23)
  have HP0 := Lib.hid p0
  have HU0 := Lib.hid p1
  have HX0 := Lib.hid px
  clear p0 p1 ps px
  have HDc := Lib.hid (cells_mid (pre := [.int .i64 4, .string ty]) (cs := [.string d1, .string d2]) (r := [.bool true, .slice lA l.length lc]) HP0.out)
  have hh : res = (false, 32) := by rw [← hres]; unfold Scp.holds; simp
  subst hh
  clear hres hS hu hd hst ht hl
  go_enter Tryz.func21, Tryz.ntmps21
  go_wp2_with (first | (with_reducible refine at_load ?_; refine wpList_load_cells rfl 23 _ rfl (w.heap.size + 1) 0 rfl Tryz.agg23 Tryz.size23 (cs := [.string u1, .string u2]) rfl (cells_of_row HU0.out) ?_) | (with_reducible refine at_load ?_; refine wpList_load_cells rfl 23 _ rfl w.heap.size 2 rfl Tryz.agg23 Tryz.size23 (cs := [.string d1, .string d2]) rfl HDc.out ?_))
  go_ret2
  exact ⟨rfl, HX0.out⟩
set_option linter.unusedVariables false in
set_option maxRecDepth 100000 in
set_option maxHeartbeats 4000000 in
theorem ref_holds_4f (S : Nat → Prop) (c : List Ent) (cv : Value) (ty d1 d2 u1 u2 : ByteArray) (l : List Uid) (lA : Option Addr) (lc : Nat) (w : World) (hS : ∀ b, S b → b < w.heap.size) (hu : FitU (u1, u2)) (hd : FitU (d1, d2)) (hst : entR.RowsAt S w c cv) (ht : Tidy c) (hl : uidR.RowsAt (fun b => b < w.heap.size) w l (.slice lA l.length lc)) :
    Calls Tryz.prog 21 #[.agg ([.int .i64 4, .string ty, .string d1, .string d2, .bool false, .slice lA l.length lc] : List Value).toArray, .agg #[.string u1, .string u2], cv] w (HoldsAns ((Scp.mk 4 ty (d1, d2) false l).holds c (u1, u2)) w) := by
  obtain ⟨res, hres⟩ : ∃ res, (Scp.mk 4 ty (d1, d2) false l).holds c (u1, u2) = res := ⟨_, rfl⟩
  rw [hres]
  obtain ⟨p0, p1, ps, px⟩ := heapA2 w (.cells #[.int .i64 4, .string ty, .string d1, .string d2, .bool false, .slice lA l.length lc] 52) (.cells #[.string u1, .string u2] 23)
  have HP0 := Lib.hid p0
  have HU0 := Lib.hid p1
  have HX0 := Lib.hid px
  clear p0 p1 ps px
  have HDc := Lib.hid (cells_mid (pre := [.int .i64 4, .string ty]) (cs := [.string d1, .string d2]) (r := [.bool false, .slice lA l.length lc]) HP0.out)
  have hc := in6_ok S c cv (u1, u2) (d1, d2) ((w.alloc (.cells #[.int .i64 4, .string ty, .string d1, .string d2, .bool false, .slice lA l.length lc] 52)).alloc (.cells #[.string u1, .string u2] 23)) (fun b hb => Nat.lt_of_lt_of_le (hS b hb) HX0.out.size) (hst.alike (Alike.of_ext HX0.out hS)) ht hu hd
  obtain ⟨s, hs⟩ : ∃ s, inB c (u1, u2) (d1, d2) = s := ⟨_, rfl⟩
  rw [hs] at hc
  have HC := Lib.hid hc
  have hq := bytes_dec u1 ty
  obtain ⟨r, hr⟩ : ∃ r, (u1.toList == ty.toList) = r := ⟨_, rfl⟩
  rw [hr] at hq
  have hh : res = (r && s, 0) := by rw [← hres, ← hq, ← hs]; unfold Scp.holds; simp
  subst hh
  clear hres hS hu hd hst ht hl hs hc hq
  cases r with
  | false =>
    go_enter Tryz.func21, Tryz.ntmps21
    go_wp2_with (first | (with_reducible refine at_load ?_; refine wpList_load_cells rfl 23 _ rfl (w.heap.size + 1) 0 rfl Tryz.agg23 Tryz.size23 (cs := [.string u1, .string u2]) rfl (cells_of_row HU0.out) ?_) | (with_reducible refine at_load ?_; refine wpList_load_cells rfl 23 _ rfl w.heap.size 2 rfl Tryz.agg23 Tryz.size23 (cs := [.string d1, .string d2]) rfl HDc.out ?_))
    refine HC.out.mono ?_
    rintro e1 w1 ⟨rfl, hx1⟩
    have HX1 := Lib.hid (HX0.out.trans hx1)
    have HP1 := Lib.hid ((hx1.block _ (Blk_lt HP0.out)).trans HP0.out)
    have HU1 := Lib.hid ((hx1.block _ (Blk_lt HU0.out)).trans HU0.out)
    have HDc1 : Hid (CellsAt w1 w.heap.size 2 [.string d1, .string d2]) := Lib.hid (cells_mid (pre := [.int .i64 4, .string ty]) (cs := [.string d1, .string d2]) (r := [.bool false, .slice lA l.length lc]) HP1.out)
    have c0 : w1.cell? ⟨w.heap.size, 0, none⟩ = some (.int .i64 4) := cell_of_row _ _ 0 _ _ _ HP1.out
    have c1 : w1.cell? ⟨w.heap.size, 1, none⟩ = some (.string ty) := cell_of_row _ _ 1 _ _ _ HP1.out
    have c2 : w1.cell? ⟨w.heap.size + 1, 0, none⟩ = some (.string u1) := cell_of_row _ _ 0 _ _ _ HU1.out
    clear hx1
    go_wp2_with (first | (with_reducible refine at_load ?_; refine wpList_load_cells rfl 23 _ rfl (w.heap.size + 1) 0 rfl Tryz.agg23 Tryz.size23 (cs := [.string u1, .string u2]) rfl (cells_of_row HU1.out) ?_) | (with_reducible refine at_load ?_; refine wpList_load_cells rfl 23 _ rfl w.heap.size 2 rfl Tryz.agg23 Tryz.size23 (cs := [.string d1, .string d2]) rfl HDc1.out ?_))
    go_ret2
    exact ⟨rfl, HX1.out⟩
  | true =>
    go_enter Tryz.func21, Tryz.ntmps21
    go_wp2_with (first | (with_reducible refine at_load ?_; refine wpList_load_cells rfl 23 _ rfl (w.heap.size + 1) 0 rfl Tryz.agg23 Tryz.size23 (cs := [.string u1, .string u2]) rfl (cells_of_row HU0.out) ?_) | (with_reducible refine at_load ?_; refine wpList_load_cells rfl 23 _ rfl w.heap.size 2 rfl Tryz.agg23 Tryz.size23 (cs := [.string d1, .string d2]) rfl HDc.out ?_))
    refine HC.out.mono ?_
    rintro e1 w1 ⟨rfl, hx1⟩
    have HX1 := Lib.hid (HX0.out.trans hx1)
    have HP1 := Lib.hid ((hx1.block _ (Blk_lt HP0.out)).trans HP0.out)
    have HU1 := Lib.hid ((hx1.block _ (Blk_lt HU0.out)).trans HU0.out)
    have HDc1 : Hid (CellsAt w1 w.heap.size 2 [.string d1, .string d2]) := Lib.hid (cells_mid (pre := [.int .i64 4, .string ty]) (cs := [.string d1, .string d2]) (r := [.bool false, .slice lA l.length lc]) HP1.out)
    have c0 : w1.cell? ⟨w.heap.size, 0, none⟩ = some (.int .i64 4) := cell_of_row _ _ 0 _ _ _ HP1.out
    have c1 : w1.cell? ⟨w.heap.size, 1, none⟩ = some (.string ty) := cell_of_row _ _ 1 _ _ _ HP1.out
    have c2 : w1.cell? ⟨w.heap.size + 1, 0, none⟩ = some (.string u1) := cell_of_row _ _ 0 _ _ _ HU1.out
    clear hx1
    go_wp2_with (first | (with_reducible refine at_load ?_; refine wpList_load_cells rfl 23 _ rfl (w.heap.size + 1) 0 rfl Tryz.agg23 Tryz.size23 (cs := [.string u1, .string u2]) rfl (cells_of_row HU1.out) ?_) | (with_reducible refine at_load ?_; refine wpList_load_cells rfl 23 _ rfl w.heap.size 2 rfl Tryz.agg23 Tryz.size23 (cs := [.string d1, .string d2]) rfl HDc1.out ?_))
    go_ret2
    exact ⟨rfl, HX1.out⟩
set_option linter.unusedVariables false in
set_option maxRecDepth 100000 in
set_option maxHeartbeats 4000000 in
theorem ref_holds_lot (pk : Int) (hpk : pk < 0) (S : Nat → Prop) (c : List Ent) (cv : Value) (ty d1 d2 u1 u2 : ByteArray) (l : List Uid) (lA : Option Addr) (lc : Nat) (w : World) (hS : ∀ b, S b → b < w.heap.size) (hu : FitU (u1, u2)) (hd : FitU (d1, d2)) (hst : entR.RowsAt S w c cv) (ht : Tidy c) (hl : uidR.RowsAt (fun b => b < w.heap.size) w l (.slice lA l.length lc)) :
    Calls Tryz.prog 21 #[.agg ([.int .i64 pk, .string ty, .string d1, .string d2, .bool true, .slice lA l.length lc] : List Value).toArray, .agg #[.string u1, .string u2], cv] w (HoldsAns ((Scp.mk pk ty (d1, d2) true l).holds c (u1, u2)) w) := by
  obtain ⟨res, hres⟩ : ∃ res, (Scp.mk pk ty (d1, d2) true l).holds c (u1, u2) = res := ⟨_, rfl⟩
  rw [hres]
  obtain ⟨p0, p1, ps, px⟩ := heapA2 w (.cells #[.int .i64 pk, .string ty, .string d1, .string d2, .bool true, .slice lA l.length lc] 52) (.cells #[.string u1, .string u2] 23)
  have HP0 := Lib.hid p0
  have HU0 := Lib.hid p1
  have HX0 := Lib.hid px
  clear p0 p1 ps px
  have HDc := Lib.hid (cells_mid (pre := [.int .i64 pk, .string ty]) (cs := [.string d1, .string d2]) (r := [.bool true, .slice lA l.length lc]) HP0.out)
  have t0 : decide (pk < 0) = true := by simp; omega
  have hh : res = (false, 1) := by rw [← hres]; unfold Scp.holds; simp; rw [if_neg (by omega), if_neg (by omega), if_neg (by omega), if_neg (by omega), if_neg (by omega), if_neg (by omega), if_neg (by omega)]
  subst hh
  clear hres hS hu hd hst ht hl hpk
  go_enter Tryz.func21, Tryz.ntmps21
  go_wp2_with (first | (with_reducible refine at_load ?_; refine wpList_load_cells rfl 23 _ rfl (w.heap.size + 1) 0 rfl Tryz.agg23 Tryz.size23 (cs := [.string u1, .string u2]) rfl (cells_of_row HU0.out) ?_) | (with_reducible refine at_load ?_; refine wpList_load_cells rfl 23 _ rfl w.heap.size 2 rfl Tryz.agg23 Tryz.size23 (cs := [.string d1, .string d2]) rfl HDc.out ?_))
  go_ret2
  exact ⟨rfl, HX0.out⟩
set_option linter.unusedVariables false in
set_option maxRecDepth 100000 in
set_option maxHeartbeats 4000000 in
theorem ref_holds_lof (pk : Int) (hpk : pk < 0) (S : Nat → Prop) (c : List Ent) (cv : Value) (ty d1 d2 u1 u2 : ByteArray) (l : List Uid) (lA : Option Addr) (lc : Nat) (w : World) (hS : ∀ b, S b → b < w.heap.size) (hu : FitU (u1, u2)) (hd : FitU (d1, d2)) (hst : entR.RowsAt S w c cv) (ht : Tidy c) (hl : uidR.RowsAt (fun b => b < w.heap.size) w l (.slice lA l.length lc)) :
    Calls Tryz.prog 21 #[.agg ([.int .i64 pk, .string ty, .string d1, .string d2, .bool false, .slice lA l.length lc] : List Value).toArray, .agg #[.string u1, .string u2], cv] w (HoldsAns ((Scp.mk pk ty (d1, d2) false l).holds c (u1, u2)) w) := by
  obtain ⟨res, hres⟩ : ∃ res, (Scp.mk pk ty (d1, d2) false l).holds c (u1, u2) = res := ⟨_, rfl⟩
  rw [hres]
  obtain ⟨p0, p1, ps, px⟩ := heapA2 w (.cells #[.int .i64 pk, .string ty, .string d1, .string d2, .bool false, .slice lA l.length lc] 52) (.cells #[.string u1, .string u2] 23)
  have HP0 := Lib.hid p0
  have HU0 := Lib.hid p1
  have HX0 := Lib.hid px
  clear p0 p1 ps px
  have HDc := Lib.hid (cells_mid (pre := [.int .i64 pk, .string ty]) (cs := [.string d1, .string d2]) (r := [.bool false, .slice lA l.length lc]) HP0.out)
  have t0 : decide (pk < 0) = true := by simp; omega
  have hh : res = (false, 1) := by rw [← hres]; unfold Scp.holds; simp; rw [if_neg (by omega), if_neg (by omega), if_neg (by omega), if_neg (by omega), if_neg (by omega), if_neg (by omega)]
  subst hh
  clear hres hS hu hd hst ht hl hpk
  go_enter Tryz.func21, Tryz.ntmps21
  go_wp2_with (first | (with_reducible refine at_load ?_; refine wpList_load_cells rfl 23 _ rfl (w.heap.size + 1) 0 rfl Tryz.agg23 Tryz.size23 (cs := [.string u1, .string u2]) rfl (cells_of_row HU0.out) ?_) | (with_reducible refine at_load ?_; refine wpList_load_cells rfl 23 _ rfl w.heap.size 2 rfl Tryz.agg23 Tryz.size23 (cs := [.string d1, .string d2]) rfl HDc.out ?_))
  go_ret2
  exact ⟨rfl, HX0.out⟩
set_option linter.unusedVariables false in
set_option maxRecDepth 100000 in
set_option maxHeartbeats 4000000 in
theorem ref_holds_hit (pk : Int) (hpk : 5 < pk) (S : Nat → Prop) (c : List Ent) (cv : Value) (ty d1 d2 u1 u2 : ByteArray) (l : List Uid) (lA : Option Addr) (lc : Nat) (w : World) (hS : ∀ b, S b → b < w.heap.size) (hu : FitU (u1, u2)) (hd : FitU (d1, d2)) (hst : entR.RowsAt S w c cv) (ht : Tidy c) (hl : uidR.RowsAt (fun b => b < w.heap.size) w l (.slice lA l.length lc)) :
    Calls Tryz.prog 21 #[.agg ([.int .i64 pk, .string ty, .string d1, .string d2, .bool true, .slice lA l.length lc] : List Value).toArray, .agg #[.string u1, .string u2], cv] w (HoldsAns ((Scp.mk pk ty (d1, d2) true l).holds c (u1, u2)) w) := by
  obtain ⟨res, hres⟩ : ∃ res, (Scp.mk pk ty (d1, d2) true l).holds c (u1, u2) = res := ⟨_, rfl⟩
  rw [hres]
  obtain ⟨p0, p1, ps, px⟩ := heapA2 w (.cells #[.int .i64 pk, .string ty, .string d1, .string d2, .bool true, .slice lA l.length lc] 52) (.cells #[.string u1, .string u2] 23)
  have HP0 := Lib.hid p0
  have HU0 := Lib.hid p1
  have HX0 := Lib.hid px
  clear p0 p1 ps px
  have HDc := Lib.hid (cells_mid (pre := [.int .i64 pk, .string ty]) (cs := [.string d1, .string d2]) (r := [.bool true, .slice lA l.length lc]) HP0.out)
  have t0 : decide (pk < 0) = false := by simp; omega
  have t1 : decide (5 < pk) = true := by simp; omega
  have hh : res = (false, 1) := by rw [← hres]; unfold Scp.holds; simp; rw [if_neg (by omega), if_neg (by omega), if_neg (by omega), if_neg (by omega), if_neg (by omega), if_neg (by omega), if_neg (by omega)]
  subst hh
  clear hres hS hu hd hst ht hl hpk
  go_enter Tryz.func21, Tryz.ntmps21
  go_wp2_with (first | (with_reducible refine at_load ?_; refine wpList_load_cells rfl 23 _ rfl (w.heap.size + 1) 0 rfl Tryz.agg23 Tryz.size23 (cs := [.string u1, .string u2]) rfl (cells_of_row HU0.out) ?_) | (with_reducible refine at_load ?_; refine wpList_load_cells rfl 23 _ rfl w.heap.size 2 rfl Tryz.agg23 Tryz.size23 (cs := [.string d1, .string d2]) rfl HDc.out ?_))
  go_ret2
  exact ⟨rfl, HX0.out⟩
set_option linter.unusedVariables false in
set_option maxRecDepth 100000 in
set_option maxHeartbeats 4000000 in
theorem ref_holds_hif (pk : Int) (hpk : 5 < pk) (S : Nat → Prop) (c : List Ent) (cv : Value) (ty d1 d2 u1 u2 : ByteArray) (l : List Uid) (lA : Option Addr) (lc : Nat) (w : World) (hS : ∀ b, S b → b < w.heap.size) (hu : FitU (u1, u2)) (hd : FitU (d1, d2)) (hst : entR.RowsAt S w c cv) (ht : Tidy c) (hl : uidR.RowsAt (fun b => b < w.heap.size) w l (.slice lA l.length lc)) :
    Calls Tryz.prog 21 #[.agg ([.int .i64 pk, .string ty, .string d1, .string d2, .bool false, .slice lA l.length lc] : List Value).toArray, .agg #[.string u1, .string u2], cv] w (HoldsAns ((Scp.mk pk ty (d1, d2) false l).holds c (u1, u2)) w) := by
  obtain ⟨res, hres⟩ : ∃ res, (Scp.mk pk ty (d1, d2) false l).holds c (u1, u2) = res := ⟨_, rfl⟩
  rw [hres]
  obtain ⟨p0, p1, ps, px⟩ := heapA2 w (.cells #[.int .i64 pk, .string ty, .string d1, .string d2, .bool false, .slice lA l.length lc] 52) (.cells #[.string u1, .string u2] 23)
  have HP0 := Lib.hid p0
  have HU0 := Lib.hid p1
  have HX0 := Lib.hid px
  clear p0 p1 ps px
  have HDc := Lib.hid (cells_mid (pre := [.int .i64 pk, .string ty]) (cs := [.string d1, .string d2]) (r := [.bool false, .slice lA l.length lc]) HP0.out)
  have t0 : decide (pk < 0) = false := by simp; omega
  have t1 : decide (5 < pk) = true := by simp; omega
  have hh : res = (false, 1) := by rw [← hres]; unfold Scp.holds; simp; rw [if_neg (by omega), if_neg (by omega), if_neg (by omega), if_neg (by omega), if_neg (by omega), if_neg (by omega)]
  subst hh
  clear hres hS hu hd hst ht hl hpk
  go_enter Tryz.func21, Tryz.ntmps21
  go_wp2_with (first | (with_reducible refine at_load ?_; refine wpList_load_cells rfl 23 _ rfl (w.heap.size + 1) 0 rfl Tryz.agg23 Tryz.size23 (cs := [.string u1, .string u2]) rfl (cells_of_row HU0.out) ?_) | (with_reducible refine at_load ?_; refine wpList_load_cells rfl 23 _ rfl w.heap.size 2 rfl Tryz.agg23 Tryz.size23 (cs := [.string d1, .string d2]) rfl HDc.out ?_))
  go_ret2
  exact ⟨rfl, HX0.out⟩
end Go.Proofs.YtebfoimbdljbmaaGreatDoor
