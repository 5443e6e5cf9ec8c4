/-
  Whether a scope takes an entity, as the program has it. The conditions: what is handed in lies in memory as it should.
-/
import Derived.Test.YtebfoimbdljbmaaGreatDoorEvGQ
import Derived.Test.YtebfoimbdljbmaaGreatDoorScpQ
namespace Go.Proofs.YtebfoimbdljbmaaGreatDoor
open Go.RowKit
open Lib renaming hid → q_
set_option maxRecDepth 100000
set_option maxHeartbeats 4000000
set_option linter.unusedVariables false
def zai (r : Bool × Int) (w : World) : Ending → World → Prop := fun e w' => e = .returned (.tuple #[.bool r.1, .int .i64 r.2]) ∧ Ext w w'
theorem zbu : ∀ args w, (callFunc 46 args).run Tryz.prog w = .ok (.enter 46 args) w := fun _ _ => by kernel_rfl
theorem holds1 {c : List Ent} (pv : Value) (u x : Uid) (w : World) (sb ub : Nat) (hu : zaw u) (hx : zaw x) (hst : StoreV w pv c) (hs : w.heap[sb]? = some (.cells #[pv] 42 (0, 0))) (hub : w.heap[ub]? = some (.cells #[.string u.1, .string u.2] 23 (0, 0))) :
  Calls Tryz.prog 46 (#[valU x] ++ #[.pointer (some ⟨sb, 0, none⟩), .pointer (some ⟨ub, 0, none⟩)]) w fun e w' => e = .returned (.bool (inB c u x)) ∧ Ext w w' := by
 obtain ⟨x1, x2⟩ := x
 have HX0 := q_ ((Ext.refl w).alloc (.cells #[.string x1, .string x2] 23))
 have HXb := q_ (heap_alloc_new w (.cells #[.string x1, .string x2] 23))
 have HSc := q_ (HX0.out.cell (cell_of_row w sb 0 _ _ _ hs))
 have HUc := q_ ((heap_alloc_old w (.cells #[.string x1, .string x2] 23) (zaf hub)).trans hub)
 have hc := inV_ok pv c u (x1, x2) _ hu hx (hst.ext HX0.out)
 obtain ⟨r, hr⟩ : ∃ r, inB c u (x1, x2) = r := ⟨_, rfl⟩
 rw [hr] at hc ⊢
 have HC := q_ hc
 clear hc hr hst hs hub hu hx
 show Calls Tryz.prog 46 #[.agg #[.string x1, .string x2], .pointer (some ⟨sb, 0, none⟩), .pointer (some ⟨ub, 0, none⟩)] w _
 go_enter Tryz.func46, Tryz.ntmps46
 go_wp2_with (first | (with_reducible refine zae ?_; refine zaa rfl 23 _ rfl ub 0 rfl zac zab (cs := [.string u.1, .string u.2]) rfl (zad HUc.out) ?_) | (with_reducible refine zae ?_; refine zaa rfl 23 _ rfl w.heap.size 0 rfl zac zab (cs := [.string x1, .string x2]) rfl (zad HXb.out) ?_) | (with_reducible refine zae ?_; refine wpList_load_lone rfl 42 _ rfl sb 0 rfl Tryz.aggPs _ HSc.out ?_))
 refine HC.out.mono ?_
 rintro e1 w1 ⟨rfl, hx1⟩
 have HX1 := q_ (HX0.out.trans hx1)
 clear hx1
 go_wp2_with fail
 go_ret
 exact ⟨rfl, HX1.out⟩
theorem holds_n_0t {c : List Ent} (ty d1 d2 u1 u2 : ByteArray) (l : List Uid) (lA : Option Addr) (lc : Nat) (w : World) (hu : zaw (u1, u2)) (hd : zaw (d1, d2)) (hst : StoreV w (.pointer none) c) (hl : uidR.RowsAt (fun b => b < w.heap.size) w l (.slice lA l.length lc)) :
  Calls Tryz.prog 20 #[.agg ([.int .i64 0, .string ty, .string d1, .string d2, .bool true, .slice lA l.length lc] : List Value).toArray, .agg #[.string u1, .string u2], (.pointer none)] w (zai ((Scp.mk 0 ty (d1, d2) true l).holds c (u1, u2)) w) := by
 obtain ⟨res, hres⟩ : ∃ res, (Scp.mk 0 ty (d1, d2) true l).holds c (u1, u2) = res := ⟨_, rfl⟩
 rw [hres]
 obtain ⟨p0, p1, p2, ps, px⟩ := zax w (.cells #[.int .i64 0, .string ty, .string d1, .string d2, .bool true, .slice lA l.length lc] 52) (.cells #[.string u1, .string u2] 23) (.cells #[(.pointer none)] 42)
 have HP0 := q_ p0
 have HU0 := q_ p1
 have HS0 := q_ p2
 have HX0 := q_ px
 clear p0 p1 p2 ps px
 have HDc := q_ (zag (pre := [.int .i64 0, .string ty]) (cs := [.string d1, .string d2]) (r := [.bool true, .slice lA l.length lc]) HP0.out)
 have hh : res = (true, 0) := by rw [← hres]; unfold Scp.holds; simp
 subst hh
 clear hres hu hd hst hl
 go_enter Tryz.func20, Tryz.ntmps20
 go_wp2_with (first | (with_reducible refine zae ?_; refine zaa rfl 23 _ rfl (w.heap.size + 1) 0 rfl zac zab (cs := [.string u1, .string u2]) rfl (zad HU0.out) ?_) | (with_reducible refine zae ?_; refine zaa rfl 23 _ rfl w.heap.size 2 rfl zac zab (cs := [.string d1, .string d2]) rfl HDc.out ?_))
 go_ret2
 exact ⟨rfl, HX0.out⟩
theorem holds_n_0f {c : List Ent} (ty d1 d2 u1 u2 : ByteArray) (l : List Uid) (lA : Option Addr) (lc : Nat) (w : World) (hu : zaw (u1, u2)) (hd : zaw (d1, d2)) (hst : StoreV w (.pointer none) c) (hl : uidR.RowsAt (fun b => b < w.heap.size) w l (.slice lA l.length lc)) :
  Calls Tryz.prog 20 #[.agg ([.int .i64 0, .string ty, .string d1, .string d2, .bool false, .slice lA l.length lc] : List Value).toArray, .agg #[.string u1, .string u2], (.pointer none)] w (zai ((Scp.mk 0 ty (d1, d2) false l).holds c (u1, u2)) w) := by
 obtain ⟨res, hres⟩ : ∃ res, (Scp.mk 0 ty (d1, d2) false l).holds c (u1, u2) = res := ⟨_, rfl⟩
 rw [hres]
 obtain ⟨p0, p1, p2, ps, px⟩ := zax w (.cells #[.int .i64 0, .string ty, .string d1, .string d2, .bool false, .slice lA l.length lc] 52) (.cells #[.string u1, .string u2] 23) (.cells #[(.pointer none)] 42)
 have HP0 := q_ p0
 have HU0 := q_ p1
 have HS0 := q_ p2
 have HX0 := q_ px
 clear p0 p1 p2 ps px
 have HDc := q_ (zag (pre := [.int .i64 0, .string ty]) (cs := [.string d1, .string d2]) (r := [.bool false, .slice lA l.length lc]) HP0.out)
 have hh : res = (true, 0) := by rw [← hres]; unfold Scp.holds; simp
 subst hh
 clear hres hu hd hst hl
 go_enter Tryz.func20, Tryz.ntmps20
 go_wp2_with (first | (with_reducible refine zae ?_; refine zaa rfl 23 _ rfl (w.heap.size + 1) 0 rfl zac zab (cs := [.string u1, .string u2]) rfl (zad HU0.out) ?_) | (with_reducible refine zae ?_; refine zaa rfl 23 _ rfl w.heap.size 2 rfl zac zab (cs := [.string d1, .string d2]) rfl HDc.out ?_))
 go_ret2
 exact ⟨rfl, HX0.out⟩
theorem holds_n_1t {c : List Ent} (ty d1 d2 u1 u2 : ByteArray) (l : List Uid) (lA : Option Addr) (lc : Nat) (w : World) (hu : zaw (u1, u2)) (hd : zaw (d1, d2)) (hst : StoreV w (.pointer none) c) (hl : uidR.RowsAt (fun b => b < w.heap.size) w l (.slice lA l.length lc)) :
  Calls Tryz.prog 20 #[.agg ([.int .i64 1, .string ty, .string d1, .string d2, .bool true, .slice lA l.length lc] : List Value).toArray, .agg #[.string u1, .string u2], (.pointer none)] w (zai ((Scp.mk 1 ty (d1, d2) true l).holds c (u1, u2)) w) := by
 obtain ⟨res, hres⟩ : ∃ res, (Scp.mk 1 ty (d1, d2) true l).holds c (u1, u2) = res := ⟨_, rfl⟩
 rw [hres]
 obtain ⟨p0, p1, p2, ps, px⟩ := zax w (.cells #[.int .i64 1, .string ty, .string d1, .string d2, .bool true, .slice lA l.length lc] 52) (.cells #[.string u1, .string u2] 23) (.cells #[(.pointer none)] 42)
 have HP0 := q_ p0
 have HU0 := q_ p1
 have HS0 := q_ p2
 have HX0 := q_ px
 clear p0 p1 p2 ps px
 have HDc := q_ (zag (pre := [.int .i64 1, .string ty]) (cs := [.string d1, .string d2]) (r := [.bool true, .slice lA l.length lc]) HP0.out)
 have hh : res = (false, 32) := by rw [← hres]; unfold Scp.holds; simp
 subst hh
 clear hres hu hd hst hl
 go_enter Tryz.func20, Tryz.ntmps20
 go_wp2_with (first | (with_reducible refine zae ?_; refine zaa rfl 23 _ rfl (w.heap.size + 1) 0 rfl zac zab (cs := [.string u1, .string u2]) rfl (zad HU0.out) ?_) | (with_reducible refine zae ?_; refine zaa rfl 23 _ rfl w.heap.size 2 rfl zac zab (cs := [.string d1, .string d2]) rfl HDc.out ?_))
 go_ret2
 exact ⟨rfl, HX0.out⟩
theorem holds_n_1f {c : List Ent} (ty d1 d2 u1 u2 : ByteArray) (l : List Uid) (lA : Option Addr) (lc : Nat) (w : World) (hu : zaw (u1, u2)) (hd : zaw (d1, d2)) (hst : StoreV w (.pointer none) c) (hl : uidR.RowsAt (fun b => b < w.heap.size) w l (.slice lA l.length lc)) :
  Calls Tryz.prog 20 #[.agg ([.int .i64 1, .string ty, .string d1, .string d2, .bool false, .slice lA l.length lc] : List Value).toArray, .agg #[.string u1, .string u2], (.pointer none)] w (zai ((Scp.mk 1 ty (d1, d2) false l).holds c (u1, u2)) w) := by
 obtain ⟨res, hres⟩ : ∃ res, (Scp.mk 1 ty (d1, d2) false l).holds c (u1, u2) = res := ⟨_, rfl⟩
 rw [hres]
 obtain ⟨p0, p1, p2, ps, px⟩ := zax w (.cells #[.int .i64 1, .string ty, .string d1, .string d2, .bool false, .slice lA l.length lc] 52) (.cells #[.string u1, .string u2] 23) (.cells #[(.pointer none)] 42)
 have HP0 := q_ p0
 have HU0 := q_ p1
 have HS0 := q_ p2
 have HX0 := q_ px
 clear p0 p1 p2 ps px
 have HDc := q_ (zag (pre := [.int .i64 1, .string ty]) (cs := [.string d1, .string d2]) (r := [.bool false, .slice lA l.length lc]) HP0.out)
 obtain ⟨tb, htb⟩ : ∃ b, decide ((u1, u2) = (d1, d2)) = b := ⟨_, rfl⟩
 have tq : ∀ w, (binOp .eql 23 (.agg #[.string u1, .string u2]) (.agg #[.string d1, .string d2])).run Tryz.prog w = .ok (.bool tb) w := fun w => by rw [← htb]; exact eqlU (u1, u2) (d1, d2) w
 have tq' : ∀ w, (Op.equalIn 10000 23 (.agg #[.string u1, .string u2]) (.agg #[.string d1, .string d2])).run Tryz.prog w = .ok tb w := fun w => by rw [← htb]; exact eqlU_in (u1, u2) (d1, d2) w
 have tg : ∀ (p q : Operand) w, (eqGuard .eql 23 p q (.agg #[.string u1, .string u2]) (.agg #[.string d1, .string d2])).run Tryz.prog w = .ok () w := fun p q w => guardU _ p q (u1, u2) (d1, d2) w
 have hh : res = (tb, 0) := by rw [← hres, ← htb]; unfold Scp.holds; simp
 subst hh
 clear hres hu hd hst hl htb
 go_enter Tryz.func20, Tryz.ntmps20
 go_wp2_with (first | (with_reducible refine zae ?_; refine zaa rfl 23 _ rfl (w.heap.size + 1) 0 rfl zac zab (cs := [.string u1, .string u2]) rfl (zad HU0.out) ?_) | (with_reducible refine zae ?_; refine zaa rfl 23 _ rfl w.heap.size 2 rfl zac zab (cs := [.string d1, .string d2]) rfl HDc.out ?_))
 go_ret2
 exact ⟨rfl, HX0.out⟩
theorem holds_n_2t {c : List Ent} (ty d1 d2 u1 u2 : ByteArray) (l : List Uid) (lA : Option Addr) (lc : Nat) (w : World) (hu : zaw (u1, u2)) (hd : zaw (d1, d2)) (hst : StoreV w (.pointer none) c) (hl : uidR.RowsAt (fun b => b < w.heap.size) w l (.slice lA l.length lc)) :
  Calls Tryz.prog 20 #[.agg ([.int .i64 2, .string ty, .string d1, .string d2, .bool true, .slice lA l.length lc] : List Value).toArray, .agg #[.string u1, .string u2], (.pointer none)] w (zai ((Scp.mk 2 ty (d1, d2) true l).holds c (u1, u2)) w) := by
 obtain ⟨res, hres⟩ : ∃ res, (Scp.mk 2 ty (d1, d2) true l).holds c (u1, u2) = res := ⟨_, rfl⟩
 rw [hres]
 obtain ⟨p0, p1, p2, ps, px⟩ := zax w (.cells #[.int .i64 2, .string ty, .string d1, .string d2, .bool true, .slice lA l.length lc] 52) (.cells #[.string u1, .string u2] 23) (.cells #[(.pointer none)] 42)
 have HP0 := q_ p0
 have HU0 := q_ p1
 have HS0 := q_ p2
 have HX0 := q_ px
 clear p0 p1 p2 ps px
 have HDc := q_ (zag (pre := [.int .i64 2, .string ty]) (cs := [.string d1, .string d2]) (r := [.bool true, .slice lA l.length lc]) HP0.out)
 have hh : res = (false, 32) := by rw [← hres]; unfold Scp.holds; simp
 subst hh
 clear hres hu hd hst hl
 go_enter Tryz.func20, Tryz.ntmps20
 go_wp2_with (first | (with_reducible refine zae ?_; refine zaa rfl 23 _ rfl (w.heap.size + 1) 0 rfl zac zab (cs := [.string u1, .string u2]) rfl (zad HU0.out) ?_) | (with_reducible refine zae ?_; refine zaa rfl 23 _ rfl w.heap.size 2 rfl zac zab (cs := [.string d1, .string d2]) rfl HDc.out ?_))
 go_ret2
 exact ⟨rfl, HX0.out⟩
theorem holds_n_2f {c : List Ent} (ty d1 d2 u1 u2 : ByteArray) (l : List Uid) (lA : Option Addr) (lc : Nat) (w : World) (hu : zaw (u1, u2)) (hd : zaw (d1, d2)) (hst : StoreV w (.pointer none) c) (hl : uidR.RowsAt (fun b => b < w.heap.size) w l (.slice lA l.length lc)) :
  Calls Tryz.prog 20 #[.agg ([.int .i64 2, .string ty, .string d1, .string d2, .bool false, .slice lA l.length lc] : List Value).toArray, .agg #[.string u1, .string u2], (.pointer none)] w (zai ((Scp.mk 2 ty (d1, d2) false l).holds c (u1, u2)) w) := by
 obtain ⟨res, hres⟩ : ∃ res, (Scp.mk 2 ty (d1, d2) false l).holds c (u1, u2) = res := ⟨_, rfl⟩
 rw [hres]
 obtain ⟨p0, p1, p2, ps, px⟩ := zax w (.cells #[.int .i64 2, .string ty, .string d1, .string d2, .bool false, .slice lA l.length lc] 52) (.cells #[.string u1, .string u2] 23) (.cells #[(.pointer none)] 42)
 have HP0 := q_ p0
 have HU0 := q_ p1
 have HS0 := q_ p2
 have HX0 := q_ px
 clear p0 p1 p2 ps px
 have HDc := q_ (zag (pre := [.int .i64 2, .string ty]) (cs := [.string d1, .string d2]) (r := [.bool false, .slice lA l.length lc]) HP0.out)
 have hc := inV_ok (.pointer none) c (u1, u2) (d1, d2) (((w.alloc (.cells #[.int .i64 2, .string ty, .string d1, .string d2, .bool false, .slice lA l.length lc] 52)).alloc (.cells #[.string u1, .string u2] 23)).alloc (.cells #[(.pointer none)] 42)) hu hd (hst.ext HX0.out)
 obtain ⟨r, hr⟩ : ∃ r, inB c (u1, u2) (d1, d2) = r := ⟨_, rfl⟩
 have hh : res = (r, 0) := by rw [← hres, ← hr]; unfold Scp.holds; simp
 rw [hr] at hc
 subst hh
 have HC := q_ hc
 clear hres hu hd hst hl hc hr
 go_enter Tryz.func20, Tryz.ntmps20
 go_wp2_with (first | (with_reducible refine zae ?_; refine zaa rfl 23 _ rfl (w.heap.size + 1) 0 rfl zac zab (cs := [.string u1, .string u2]) rfl (zad HU0.out) ?_) | (with_reducible refine zae ?_; refine zaa rfl 23 _ rfl w.heap.size 2 rfl zac zab (cs := [.string d1, .string d2]) rfl HDc.out ?_))
 refine HC.out.mono ?_
 rintro e1 w1 ⟨rfl, hx1⟩
 have HX1 := q_ (HX0.out.trans hx1)
 clear hx1
 go_wp2_with fail
 go_ret2
 exact ⟨rfl, HX1.out⟩
theorem holds_n_3t {c : List Ent} (ty d1 d2 u1 u2 : ByteArray) (l : List Uid) (lA : Option Addr) (lc : Nat) (w : World) (hu : zaw (u1, u2)) (hd : zaw (d1, d2)) (hst : StoreV w (.pointer none) c) (hl : uidR.RowsAt (fun b => b < w.heap.size) w l (.slice lA l.length lc)) :
  Calls Tryz.prog 20 #[.agg ([.int .i64 3, .string ty, .string d1, .string d2, .bool true, .slice lA l.length lc] : List Value).toArray, .agg #[.string u1, .string u2], (.pointer none)] w (zai ((Scp.mk 3 ty (d1, d2) true l).holds c (u1, u2)) w) := by
 obtain ⟨res, hres⟩ : ∃ res, (Scp.mk 3 ty (d1, d2) true l).holds c (u1, u2) = res := ⟨_, rfl⟩
 rw [hres]
 obtain ⟨p0, p1, p2, ps, px⟩ := zax w (.cells #[.int .i64 3, .string ty, .string d1, .string d2, .bool true, .slice lA l.length lc] 52) (.cells #[.string u1, .string u2] 23) (.cells #[(.pointer none)] 42)
 have HP0 := q_ p0
 have HU0 := q_ p1
 have HS0 := q_ p2
 have HX0 := q_ px
 clear p0 p1 p2 ps px
 have HDc := q_ (zag (pre := [.int .i64 3, .string ty]) (cs := [.string d1, .string d2]) (r := [.bool true, .slice lA l.length lc]) HP0.out)
 have hq := zb0 u1 ty
 obtain ⟨r, hr⟩ : ∃ r, (u1.toList == ty.toList) = r := ⟨_, rfl⟩
 rw [hr] at hq
 have hh : res = (r, 0) := by rw [← hres, ← hq]; unfold Scp.holds; simp
 subst hh
 clear hres hu hd hst hl hq
 go_enter Tryz.func20, Tryz.ntmps20
 go_wp2_with (first | (with_reducible refine zae ?_; refine zaa rfl 23 _ rfl (w.heap.size + 1) 0 rfl zac zab (cs := [.string u1, .string u2]) rfl (zad HU0.out) ?_) | (with_reducible refine zae ?_; refine zaa rfl 23 _ rfl w.heap.size 2 rfl zac zab (cs := [.string d1, .string d2]) rfl HDc.out ?_))
 go_ret2
 exact ⟨rfl, HX0.out⟩
theorem holds_n_3f {c : List Ent} (ty d1 d2 u1 u2 : ByteArray) (l : List Uid) (lA : Option Addr) (lc : Nat) (w : World) (hu : zaw (u1, u2)) (hd : zaw (d1, d2)) (hst : StoreV w (.pointer none) c) (hl : uidR.RowsAt (fun b => b < w.heap.size) w l (.slice lA l.length lc)) :
  Calls Tryz.prog 20 #[.agg ([.int .i64 3, .string ty, .string d1, .string d2, .bool false, .slice lA l.length lc] : List Value).toArray, .agg #[.string u1, .string u2], (.pointer none)] w (zai ((Scp.mk 3 ty (d1, d2) false l).holds c (u1, u2)) w) := by
 obtain ⟨res, hres⟩ : ∃ res, (Scp.mk 3 ty (d1, d2) false l).holds c (u1, u2) = res := ⟨_, rfl⟩
 rw [hres]
 obtain ⟨p0, p1, p2, ps, px⟩ := zax w (.cells #[.int .i64 3, .string ty, .string d1, .string d2, .bool false, .slice lA l.length lc] 52) (.cells #[.string u1, .string u2] 23) (.cells #[(.pointer none)] 42)
 have HP0 := q_ p0
 have HU0 := q_ p1
 have HS0 := q_ p2
 have HX0 := q_ px
 clear p0 p1 p2 ps px
 have HDc := q_ (zag (pre := [.int .i64 3, .string ty]) (cs := [.string d1, .string d2]) (r := [.bool false, .slice lA l.length lc]) HP0.out)
 have hq := zb0 u1 ty
 obtain ⟨r, hr⟩ : ∃ r, (u1.toList == ty.toList) = r := ⟨_, rfl⟩
 rw [hr] at hq
 have hh : res = (r, 0) := by rw [← hres, ← hq]; unfold Scp.holds; simp
 subst hh
 clear hres hu hd hst hl hq
 go_enter Tryz.func20, Tryz.ntmps20
 go_wp2_with (first | (with_reducible refine zae ?_; refine zaa rfl 23 _ rfl (w.heap.size + 1) 0 rfl zac zab (cs := [.string u1, .string u2]) rfl (zad HU0.out) ?_) | (with_reducible refine zae ?_; refine zaa rfl 23 _ rfl w.heap.size 2 rfl zac zab (cs := [.string d1, .string d2]) rfl HDc.out ?_))
 go_ret2
 exact ⟨rfl, HX0.out⟩
theorem holds_n_4t {c : List Ent} (ty d1 d2 u1 u2 : ByteArray) (l : List Uid) (lA : Option Addr) (lc : Nat) (w : World) (hu : zaw (u1, u2)) (hd : zaw (d1, d2)) (hst : StoreV w (.pointer none) c) (hl : uidR.RowsAt (fun b => b < w.heap.size) w l (.slice lA l.length lc)) :
  Calls Tryz.prog 20 #[.agg ([.int .i64 4, .string ty, .string d1, .string d2, .bool true, .slice lA l.length lc] : List Value).toArray, .agg #[.string u1, .string u2], (.pointer none)] w (zai ((Scp.mk 4 ty (d1, d2) true l).holds c (u1, u2)) w) := by
 obtain ⟨res, hres⟩ : ∃ res, (Scp.mk 4 ty (d1, d2) true l).holds c (u1, u2) = res := ⟨_, rfl⟩
 rw [hres]
 obtain ⟨p0, p1, p2, ps, px⟩ := zax w (.cells #[.int .i64 4, .string ty, .string d1, .string d2, .bool true, .slice lA l.length lc] 52) (.cells #[.string u1, .string u2] 23) (.cells #[(.pointer none)] 42)
 have HP0 := q_ p0
 have HU0 := q_ p1
 have HS0 := q_ p2
 have HX0 := q_ px
 clear p0 p1 p2 ps px
 have HDc := q_ (zag (pre := [.int .i64 4, .string ty]) (cs := [.string d1, .string d2]) (r := [.bool true, .slice lA l.length lc]) HP0.out)
 have hh : res = (false, 32) := by rw [← hres]; unfold Scp.holds; simp
 subst hh
 clear hres hu hd hst hl
 go_enter Tryz.func20, Tryz.ntmps20
 go_wp2_with (first | (with_reducible refine zae ?_; refine zaa rfl 23 _ rfl (w.heap.size + 1) 0 rfl zac zab (cs := [.string u1, .string u2]) rfl (zad HU0.out) ?_) | (with_reducible refine zae ?_; refine zaa rfl 23 _ rfl w.heap.size 2 rfl zac zab (cs := [.string d1, .string d2]) rfl HDc.out ?_))
 go_ret2
 exact ⟨rfl, HX0.out⟩
theorem holds_n_4f {c : List Ent} (ty d1 d2 u1 u2 : ByteArray) (l : List Uid) (lA : Option Addr) (lc : Nat) (w : World) (hu : zaw (u1, u2)) (hd : zaw (d1, d2)) (hst : StoreV w (.pointer none) c) (hl : uidR.RowsAt (fun b => b < w.heap.size) w l (.slice lA l.length lc)) :
  Calls Tryz.prog 20 #[.agg ([.int .i64 4, .string ty, .string d1, .string d2, .bool false, .slice lA l.length lc] : List Value).toArray, .agg #[.string u1, .string u2], (.pointer none)] w (zai ((Scp.mk 4 ty (d1, d2) false l).holds c (u1, u2)) w) := by
 obtain ⟨res, hres⟩ : ∃ res, (Scp.mk 4 ty (d1, d2) false l).holds c (u1, u2) = res := ⟨_, rfl⟩
 rw [hres]
 obtain ⟨p0, p1, p2, ps, px⟩ := zax w (.cells #[.int .i64 4, .string ty, .string d1, .string d2, .bool false, .slice lA l.length lc] 52) (.cells #[.string u1, .string u2] 23) (.cells #[(.pointer none)] 42)
 have HP0 := q_ p0
 have HU0 := q_ p1
 have HS0 := q_ p2
 have HX0 := q_ px
 clear p0 p1 p2 ps px
 have HDc := q_ (zag (pre := [.int .i64 4, .string ty]) (cs := [.string d1, .string d2]) (r := [.bool false, .slice lA l.length lc]) HP0.out)
 have hq := zb0 u1 ty
 obtain ⟨r, hr⟩ : ∃ r, (u1.toList == ty.toList) = r := ⟨_, rfl⟩
 rw [hr] at hq
 have hc := inV_ok (.pointer none) c (u1, u2) (d1, d2) (((w.alloc (.cells #[.int .i64 4, .string ty, .string d1, .string d2, .bool false, .slice lA l.length lc] 52)).alloc (.cells #[.string u1, .string u2] 23)).alloc (.cells #[(.pointer none)] 42)) hu hd (hst.ext HX0.out)
 obtain ⟨s, hs⟩ : ∃ s, inB c (u1, u2) (d1, d2) = s := ⟨_, rfl⟩
 rw [hs] at hc
 have hh : res = (r && s, 0) := by rw [← hres, ← hq, ← hs]; unfold Scp.holds; simp
 subst hh
 have HC := q_ hc
 clear hres hu hd hst hl hc hs hq
 cases r with
 | false =>
  go_enter Tryz.func20, Tryz.ntmps20
  go_wp2_with (first | (with_reducible refine zae ?_; refine zaa rfl 23 _ rfl (w.heap.size + 1) 0 rfl zac zab (cs := [.string u1, .string u2]) rfl (zad HU0.out) ?_) | (with_reducible refine zae ?_; refine zaa rfl 23 _ rfl w.heap.size 2 rfl zac zab (cs := [.string d1, .string d2]) rfl HDc.out ?_))
  go_ret2
  exact ⟨rfl, HX0.out⟩
 | true =>
  go_enter Tryz.func20, Tryz.ntmps20
  go_wp2_with (first | (with_reducible refine zae ?_; refine zaa rfl 23 _ rfl (w.heap.size + 1) 0 rfl zac zab (cs := [.string u1, .string u2]) rfl (zad HU0.out) ?_) | (with_reducible refine zae ?_; refine zaa rfl 23 _ rfl w.heap.size 2 rfl zac zab (cs := [.string d1, .string d2]) rfl HDc.out ?_))
  refine HC.out.mono ?_
  rintro e1 w1 ⟨rfl, hx1⟩
  have HX1 := q_ (HX0.out.trans hx1)
  clear hx1
  go_wp2_with fail
  go_ret2
  exact ⟨rfl, HX1.out⟩
theorem holds_n_5t {c : List Ent} (ty d1 d2 u1 u2 : ByteArray) (l : List Uid) (lA : Option Addr) (lc : Nat) (w : World) (hu : zaw (u1, u2)) (hd : zaw (d1, d2)) (hst : StoreV w (.pointer none) c) (hl : uidR.RowsAt (fun b => b < w.heap.size) w l (.slice lA l.length lc)) :
  Calls Tryz.prog 20 #[.agg ([.int .i64 5, .string ty, .string d1, .string d2, .bool true, .slice lA l.length lc] : List Value).toArray, .agg #[.string u1, .string u2], (.pointer none)] w (zai ((Scp.mk 5 ty (d1, d2) true l).holds c (u1, u2)) w) := by
 obtain ⟨res, hres⟩ : ∃ res, (Scp.mk 5 ty (d1, d2) true l).holds c (u1, u2) = res := ⟨_, rfl⟩
 rw [hres]
 obtain ⟨p0, p1, p2, ps, px⟩ := zax w (.cells #[.int .i64 5, .string ty, .string d1, .string d2, .bool true, .slice lA l.length lc] 52) (.cells #[.string u1, .string u2] 23) (.cells #[(.pointer none)] 42)
 have HP0 := q_ p0
 have HU0 := q_ p1
 have HS0 := q_ p2
 have HX0 := q_ px
 clear p0 p1 p2 ps px
 have HDc := q_ (zag (pre := [.int .i64 5, .string ty]) (cs := [.string d1, .string d2]) (r := [.bool true, .slice lA l.length lc]) HP0.out)
 have hc := za5 46 #[.pointer (some ⟨w.heap.size + 2, 0, none⟩), .pointer (some ⟨w.heap.size + 1, 0, none⟩)] (fun x => inB c (u1, u2) x) (fun b => b < (((w.alloc (.cells #[.int .i64 5, .string ty, .string d1, .string d2, .bool true, .slice lA l.length lc] 52)).alloc (.cells #[.string u1, .string u2] 23)).alloc (.cells #[(.pointer none)] 42)).heap.size) l (.slice lA l.length lc) (((w.alloc (.cells #[.int .i64 5, .string ty, .string d1, .string d2, .bool true, .slice lA l.length lc] 52)).alloc (.cells #[.string u1, .string u2] 23)).alloc (.cells #[(.pointer none)] 42)) zbu (fun _ h => h) ((hl.alike (Alike.of_ext HX0.out fun _ h => h)).mono fun b hb => Nat.lt_of_lt_of_le hb HX0.out.size)
  (fun x _ hx w1 hw1 => holds1 (.pointer none) (u1, u2) x w1 (w.heap.size + 2) (w.heap.size + 1) hu hx (hst.ext (HX0.out.trans hw1)) ((hw1.block _ (zaf HS0.out)).trans HS0.out) ((hw1.block _ (zaf HU0.out)).trans HU0.out))
 obtain ⟨r, hr⟩ : ∃ r, (l.any fun x => inB c (u1, u2) x) = r := ⟨_, rfl⟩
 have hh : res = (r, 0) := by rw [← hres, ← hr]; unfold Scp.holds; simp
 rw [hr] at hc
 subst hh
 have HC := q_ hc
 clear hres hu hd hst hl hc hr
 go_enter Tryz.func20, Tryz.ntmps20
 go_wp2_with (first | (with_reducible refine zae ?_; refine zaa rfl 23 _ rfl (w.heap.size + 1) 0 rfl zac zab (cs := [.string u1, .string u2]) rfl (zad HU0.out) ?_) | (with_reducible refine zae ?_; refine zaa rfl 23 _ rfl w.heap.size 2 rfl zac zab (cs := [.string d1, .string d2]) rfl HDc.out ?_))
 refine HC.out.mono ?_
 rintro e1 w1 ⟨rfl, hx1⟩
 have HX1 := q_ (HX0.out.trans hx1)
 clear hx1
 go_wp2_with fail
 go_ret2
 exact ⟨rfl, HX1.out⟩
theorem holds_n_5f {c : List Ent} (ty d1 d2 u1 u2 : ByteArray) (l : List Uid) (lA : Option Addr) (lc : Nat) (w : World) (hu : zaw (u1, u2)) (hd : zaw (d1, d2)) (hst : StoreV w (.pointer none) c) (hl : uidR.RowsAt (fun b => b < w.heap.size) w l (.slice lA l.length lc)) :
  Calls Tryz.prog 20 #[.agg ([.int .i64 5, .string ty, .string d1, .string d2, .bool false, .slice lA l.length lc] : List Value).toArray, .agg #[.string u1, .string u2], (.pointer none)] w (zai ((Scp.mk 5 ty (d1, d2) false l).holds c (u1, u2)) w) := by
 obtain ⟨res, hres⟩ : ∃ res, (Scp.mk 5 ty (d1, d2) false l).holds c (u1, u2) = res := ⟨_, rfl⟩
 rw [hres]
 obtain ⟨p0, p1, p2, ps, px⟩ := zax w (.cells #[.int .i64 5, .string ty, .string d1, .string d2, .bool false, .slice lA l.length lc] 52) (.cells #[.string u1, .string u2] 23) (.cells #[(.pointer none)] 42)
 have HP0 := q_ p0
 have HU0 := q_ p1
 have HS0 := q_ p2
 have HX0 := q_ px
 clear p0 p1 p2 ps px
 have HDc := q_ (zag (pre := [.int .i64 5, .string ty]) (cs := [.string d1, .string d2]) (r := [.bool false, .slice lA l.length lc]) HP0.out)
 have hc := za5 46 #[.pointer (some ⟨w.heap.size + 2, 0, none⟩), .pointer (some ⟨w.heap.size + 1, 0, none⟩)] (fun x => inB c (u1, u2) x) (fun b => b < (((w.alloc (.cells #[.int .i64 5, .string ty, .string d1, .string d2, .bool false, .slice lA l.length lc] 52)).alloc (.cells #[.string u1, .string u2] 23)).alloc (.cells #[(.pointer none)] 42)).heap.size) l (.slice lA l.length lc) (((w.alloc (.cells #[.int .i64 5, .string ty, .string d1, .string d2, .bool false, .slice lA l.length lc] 52)).alloc (.cells #[.string u1, .string u2] 23)).alloc (.cells #[(.pointer none)] 42)) zbu (fun _ h => h) ((hl.alike (Alike.of_ext HX0.out fun _ h => h)).mono fun b hb => Nat.lt_of_lt_of_le hb HX0.out.size)
  (fun x _ hx w1 hw1 => holds1 (.pointer none) (u1, u2) x w1 (w.heap.size + 2) (w.heap.size + 1) hu hx (hst.ext (HX0.out.trans hw1)) ((hw1.block _ (zaf HS0.out)).trans HS0.out) ((hw1.block _ (zaf HU0.out)).trans HU0.out))
 obtain ⟨r, hr⟩ : ∃ r, (l.any fun x => inB c (u1, u2) x) = r := ⟨_, rfl⟩
 have hh : res = (r, 0) := by rw [← hres, ← hr]; unfold Scp.holds; simp
 rw [hr] at hc
 subst hh
 have HC := q_ hc
 clear hres hu hd hst hl hc hr
 go_enter Tryz.func20, Tryz.ntmps20
 go_wp2_with (first | (with_reducible refine zae ?_; refine zaa rfl 23 _ rfl (w.heap.size + 1) 0 rfl zac zab (cs := [.string u1, .string u2]) rfl (zad HU0.out) ?_) | (with_reducible refine zae ?_; refine zaa rfl 23 _ rfl w.heap.size 2 rfl zac zab (cs := [.string d1, .string d2]) rfl HDc.out ?_))
 refine HC.out.mono ?_
 rintro e1 w1 ⟨rfl, hx1⟩
 have HX1 := q_ (HX0.out.trans hx1)
 clear hx1
 go_wp2_with fail
 go_ret2
 exact ⟨rfl, HX1.out⟩
theorem holds_n_xt {c : List Ent} (pk : Int) (hpk : pk ≠ 0 ∧ pk ≠ 1 ∧ pk ≠ 2 ∧ pk ≠ 3 ∧ pk ≠ 4 ∧ pk ≠ 5) (ty d1 d2 u1 u2 : ByteArray) (l : List Uid) (lA : Option Addr) (lc : Nat) (w : World) (hu : zaw (u1, u2)) (hd : zaw (d1, d2)) (hst : StoreV w (.pointer none) c) (hl : uidR.RowsAt (fun b => b < w.heap.size) w l (.slice lA l.length lc)) :
  Calls Tryz.prog 20 #[.agg ([.int .i64 pk, .string ty, .string d1, .string d2, .bool true, .slice lA l.length lc] : List Value).toArray, .agg #[.string u1, .string u2], (.pointer none)] w (zai ((Scp.mk pk ty (d1, d2) true l).holds c (u1, u2)) w) := by
 obtain ⟨res, hres⟩ : ∃ res, (Scp.mk pk ty (d1, d2) true l).holds c (u1, u2) = res := ⟨_, rfl⟩
 rw [hres]
 obtain ⟨p0, p1, p2, ps, px⟩ := zax w (.cells #[.int .i64 pk, .string ty, .string d1, .string d2, .bool true, .slice lA l.length lc] 52) (.cells #[.string u1, .string u2] 23) (.cells #[(.pointer none)] 42)
 have HP0 := q_ p0
 have HU0 := q_ p1
 have HS0 := q_ p2
 have HX0 := q_ px
 clear p0 p1 p2 ps px
 have HDc := q_ (zag (pre := [.int .i64 pk, .string ty]) (cs := [.string d1, .string d2]) (r := [.bool true, .slice lA l.length lc]) HP0.out)
 have e0 : (pk == 0) = false := by simp; omega
 have e1 : (pk == 1) = false := by simp; omega
 have e2 : (pk == 2) = false := by simp; omega
 have e3 : (pk == 3) = false := by simp; omega
 have e4 : (pk == 4) = false := by simp; omega
 have e5 : (pk == 5) = false := by simp; omega
 have hh : res = (false, 1) := by rw [← hres]; unfold Scp.holds; simp [hpk]
 subst hh
 clear hres hu hd hst hl hpk
 go_enter Tryz.func20, Tryz.ntmps20
 go_wp2_with (first | (with_reducible refine zae ?_; refine zaa rfl 23 _ rfl (w.heap.size + 1) 0 rfl zac zab (cs := [.string u1, .string u2]) rfl (zad HU0.out) ?_) | (with_reducible refine zae ?_; refine zaa rfl 23 _ rfl w.heap.size 2 rfl zac zab (cs := [.string d1, .string d2]) rfl HDc.out ?_))
 go_ret2
 exact ⟨rfl, HX0.out⟩
theorem holds_n_xf {c : List Ent} (pk : Int) (hpk : pk ≠ 0 ∧ pk ≠ 1 ∧ pk ≠ 2 ∧ pk ≠ 3 ∧ pk ≠ 4 ∧ pk ≠ 5) (ty d1 d2 u1 u2 : ByteArray) (l : List Uid) (lA : Option Addr) (lc : Nat) (w : World) (hu : zaw (u1, u2)) (hd : zaw (d1, d2)) (hst : StoreV w (.pointer none) c) (hl : uidR.RowsAt (fun b => b < w.heap.size) w l (.slice lA l.length lc)) :
  Calls Tryz.prog 20 #[.agg ([.int .i64 pk, .string ty, .string d1, .string d2, .bool false, .slice lA l.length lc] : List Value).toArray, .agg #[.string u1, .string u2], (.pointer none)] w (zai ((Scp.mk pk ty (d1, d2) false l).holds c (u1, u2)) w) := by
 obtain ⟨res, hres⟩ : ∃ res, (Scp.mk pk ty (d1, d2) false l).holds c (u1, u2) = res := ⟨_, rfl⟩
 rw [hres]
 obtain ⟨p0, p1, p2, ps, px⟩ := zax w (.cells #[.int .i64 pk, .string ty, .string d1, .string d2, .bool false, .slice lA l.length lc] 52) (.cells #[.string u1, .string u2] 23) (.cells #[(.pointer none)] 42)
 have HP0 := q_ p0
 have HU0 := q_ p1
 have HS0 := q_ p2
 have HX0 := q_ px
 clear p0 p1 p2 ps px
 have HDc := q_ (zag (pre := [.int .i64 pk, .string ty]) (cs := [.string d1, .string d2]) (r := [.bool false, .slice lA l.length lc]) HP0.out)
 have e0 : (pk == 0) = false := by simp; omega
 have e1 : (pk == 1) = false := by simp; omega
 have e2 : (pk == 2) = false := by simp; omega
 have e3 : (pk == 3) = false := by simp; omega
 have e4 : (pk == 4) = false := by simp; omega
 have e5 : (pk == 5) = false := by simp; omega
 have hh : res = (false, 1) := by rw [← hres]; unfold Scp.holds; simp [hpk]
 subst hh
 clear hres hu hd hst hl hpk
 go_enter Tryz.func20, Tryz.ntmps20
 go_wp2_with (first | (with_reducible refine zae ?_; refine zaa rfl 23 _ rfl (w.heap.size + 1) 0 rfl zac zab (cs := [.string u1, .string u2]) rfl (zad HU0.out) ?_) | (with_reducible refine zae ?_; refine zaa rfl 23 _ rfl w.heap.size 2 rfl zac zab (cs := [.string d1, .string d2]) rfl HDc.out ?_))
 go_ret2
 exact ⟨rfl, HX0.out⟩
theorem holds_s_0t {c : List Ent} (sg : Nat) (ty d1 d2 u1 u2 : ByteArray) (l : List Uid) (lA : Option Addr) (lc : Nat) (w : World) (hu : zaw (u1, u2)) (hd : zaw (d1, d2)) (hst : StoreV w (.pointer (some ⟨sg, 0, none⟩)) c) (hl : uidR.RowsAt (fun b => b < w.heap.size) w l (.slice lA l.length lc)) :
  Calls Tryz.prog 20 #[.agg ([.int .i64 0, .string ty, .string d1, .string d2, .bool true, .slice lA l.length lc] : List Value).toArray, .agg #[.string u1, .string u2], (.pointer (some ⟨sg, 0, none⟩))] w (zai ((Scp.mk 0 ty (d1, d2) true l).holds c (u1, u2)) w) := by
 obtain ⟨res, hres⟩ : ∃ res, (Scp.mk 0 ty (d1, d2) true l).holds c (u1, u2) = res := ⟨_, rfl⟩
 rw [hres]
 obtain ⟨p0, p1, p2, ps, px⟩ := zax w (.cells #[.int .i64 0, .string ty, .string d1, .string d2, .bool true, .slice lA l.length lc] 52) (.cells #[.string u1, .string u2] 23) (.cells #[(.pointer (some ⟨sg, 0, none⟩))] 42)
 have HP0 := q_ p0
 have HU0 := q_ p1
 have HS0 := q_ p2
 have HX0 := q_ px
 clear p0 p1 p2 ps px
 have HDc := q_ (zag (pre := [.int .i64 0, .string ty]) (cs := [.string d1, .string d2]) (r := [.bool true, .slice lA l.length lc]) HP0.out)
 have hh : res = (true, 0) := by rw [← hres]; unfold Scp.holds; simp
 subst hh
 clear hres hu hd hst hl
 go_enter Tryz.func20, Tryz.ntmps20
 go_wp2_with (first | (with_reducible refine zae ?_; refine zaa rfl 23 _ rfl (w.heap.size + 1) 0 rfl zac zab (cs := [.string u1, .string u2]) rfl (zad HU0.out) ?_) | (with_reducible refine zae ?_; refine zaa rfl 23 _ rfl w.heap.size 2 rfl zac zab (cs := [.string d1, .string d2]) rfl HDc.out ?_))
 go_ret2
 exact ⟨rfl, HX0.out⟩
theorem holds_s_0f {c : List Ent} (sg : Nat) (ty d1 d2 u1 u2 : ByteArray) (l : List Uid) (lA : Option Addr) (lc : Nat) (w : World) (hu : zaw (u1, u2)) (hd : zaw (d1, d2)) (hst : StoreV w (.pointer (some ⟨sg, 0, none⟩)) c) (hl : uidR.RowsAt (fun b => b < w.heap.size) w l (.slice lA l.length lc)) :
  Calls Tryz.prog 20 #[.agg ([.int .i64 0, .string ty, .string d1, .string d2, .bool false, .slice lA l.length lc] : List Value).toArray, .agg #[.string u1, .string u2], (.pointer (some ⟨sg, 0, none⟩))] w (zai ((Scp.mk 0 ty (d1, d2) false l).holds c (u1, u2)) w) := by
 obtain ⟨res, hres⟩ : ∃ res, (Scp.mk 0 ty (d1, d2) false l).holds c (u1, u2) = res := ⟨_, rfl⟩
 rw [hres]
 obtain ⟨p0, p1, p2, ps, px⟩ := zax w (.cells #[.int .i64 0, .string ty, .string d1, .string d2, .bool false, .slice lA l.length lc] 52) (.cells #[.string u1, .string u2] 23) (.cells #[(.pointer (some ⟨sg, 0, none⟩))] 42)
 have HP0 := q_ p0
 have HU0 := q_ p1
 have HS0 := q_ p2
 have HX0 := q_ px
 clear p0 p1 p2 ps px
 have HDc := q_ (zag (pre := [.int .i64 0, .string ty]) (cs := [.string d1, .string d2]) (r := [.bool false, .slice lA l.length lc]) HP0.out)
 have hh : res = (true, 0) := by rw [← hres]; unfold Scp.holds; simp
 subst hh
 clear hres hu hd hst hl
 go_enter Tryz.func20, Tryz.ntmps20
 go_wp2_with (first | (with_reducible refine zae ?_; refine zaa rfl 23 _ rfl (w.heap.size + 1) 0 rfl zac zab (cs := [.string u1, .string u2]) rfl (zad HU0.out) ?_) | (with_reducible refine zae ?_; refine zaa rfl 23 _ rfl w.heap.size 2 rfl zac zab (cs := [.string d1, .string d2]) rfl HDc.out ?_))
 go_ret2
 exact ⟨rfl, HX0.out⟩
theorem holds_s_1t {c : List Ent} (sg : Nat) (ty d1 d2 u1 u2 : ByteArray) (l : List Uid) (lA : Option Addr) (lc : Nat) (w : World) (hu : zaw (u1, u2)) (hd : zaw (d1, d2)) (hst : StoreV w (.pointer (some ⟨sg, 0, none⟩)) c) (hl : uidR.RowsAt (fun b => b < w.heap.size) w l (.slice lA l.length lc)) :
  Calls Tryz.prog 20 #[.agg ([.int .i64 1, .string ty, .string d1, .string d2, .bool true, .slice lA l.length lc] : List Value).toArray, .agg #[.string u1, .string u2], (.pointer (some ⟨sg, 0, none⟩))] w (zai ((Scp.mk 1 ty (d1, d2) true l).holds c (u1, u2)) w) := by
 obtain ⟨res, hres⟩ : ∃ res, (Scp.mk 1 ty (d1, d2) true l).holds c (u1, u2) = res := ⟨_, rfl⟩
 rw [hres]
 obtain ⟨p0, p1, p2, ps, px⟩ := zax w (.cells #[.int .i64 1, .string ty, .string d1, .string d2, .bool true, .slice lA l.length lc] 52) (.cells #[.string u1, .string u2] 23) (.cells #[(.pointer (some ⟨sg, 0, none⟩))] 42)
 have HP0 := q_ p0
 have HU0 := q_ p1
 have HS0 := q_ p2
 have HX0 := q_ px
 clear p0 p1 p2 ps px
 have HDc := q_ (zag (pre := [.int .i64 1, .string ty]) (cs := [.string d1, .string d2]) (r := [.bool true, .slice lA l.length lc]) HP0.out)
 have hh : res = (false, 32) := by rw [← hres]; unfold Scp.holds; simp
 subst hh
 clear hres hu hd hst hl
 go_enter Tryz.func20, Tryz.ntmps20
 go_wp2_with (first | (with_reducible refine zae ?_; refine zaa rfl 23 _ rfl (w.heap.size + 1) 0 rfl zac zab (cs := [.string u1, .string u2]) rfl (zad HU0.out) ?_) | (with_reducible refine zae ?_; refine zaa rfl 23 _ rfl w.heap.size 2 rfl zac zab (cs := [.string d1, .string d2]) rfl HDc.out ?_))
 go_ret2
 exact ⟨rfl, HX0.out⟩
theorem holds_s_1f {c : List Ent} (sg : Nat) (ty d1 d2 u1 u2 : ByteArray) (l : List Uid) (lA : Option Addr) (lc : Nat) (w : World) (hu : zaw (u1, u2)) (hd : zaw (d1, d2)) (hst : StoreV w (.pointer (some ⟨sg, 0, none⟩)) c) (hl : uidR.RowsAt (fun b => b < w.heap.size) w l (.slice lA l.length lc)) :
  Calls Tryz.prog 20 #[.agg ([.int .i64 1, .string ty, .string d1, .string d2, .bool false, .slice lA l.length lc] : List Value).toArray, .agg #[.string u1, .string u2], (.pointer (some ⟨sg, 0, none⟩))] w (zai ((Scp.mk 1 ty (d1, d2) false l).holds c (u1, u2)) w) := by
 obtain ⟨res, hres⟩ : ∃ res, (Scp.mk 1 ty (d1, d2) false l).holds c (u1, u2) = res := ⟨_, rfl⟩
 rw [hres]
 obtain ⟨p0, p1, p2, ps, px⟩ := zax w (.cells #[.int .i64 1, .string ty, .string d1, .string d2, .bool false, .slice lA l.length lc] 52) (.cells #[.string u1, .string u2] 23) (.cells #[(.pointer (some ⟨sg, 0, none⟩))] 42)
 have HP0 := q_ p0
 have HU0 := q_ p1
 have HS0 := q_ p2
 have HX0 := q_ px
 clear p0 p1 p2 ps px
 have HDc := q_ (zag (pre := [.int .i64 1, .string ty]) (cs := [.string d1, .string d2]) (r := [.bool false, .slice lA l.length lc]) HP0.out)
 obtain ⟨tb, htb⟩ : ∃ b, decide ((u1, u2) = (d1, d2)) = b := ⟨_, rfl⟩
 have tq : ∀ w, (binOp .eql 23 (.agg #[.string u1, .string u2]) (.agg #[.string d1, .string d2])).run Tryz.prog w = .ok (.bool tb) w := fun w => by rw [← htb]; exact eqlU (u1, u2) (d1, d2) w
 have tq' : ∀ w, (Op.equalIn 10000 23 (.agg #[.string u1, .string u2]) (.agg #[.string d1, .string d2])).run Tryz.prog w = .ok tb w := fun w => by rw [← htb]; exact eqlU_in (u1, u2) (d1, d2) w
 have tg : ∀ (p q : Operand) w, (eqGuard .eql 23 p q (.agg #[.string u1, .string u2]) (.agg #[.string d1, .string d2])).run Tryz.prog w = .ok () w := fun p q w => guardU _ p q (u1, u2) (d1, d2) w
 have hh : res = (tb, 0) := by rw [← hres, ← htb]; unfold Scp.holds; simp
 subst hh
 clear hres hu hd hst hl htb
 go_enter Tryz.func20, Tryz.ntmps20
 go_wp2_with (first | (with_reducible refine zae ?_; refine zaa rfl 23 _ rfl (w.heap.size + 1) 0 rfl zac zab (cs := [.string u1, .string u2]) rfl (zad HU0.out) ?_) | (with_reducible refine zae ?_; refine zaa rfl 23 _ rfl w.heap.size 2 rfl zac zab (cs := [.string d1, .string d2]) rfl HDc.out ?_))
 go_ret2
 exact ⟨rfl, HX0.out⟩
theorem holds_s_2t {c : List Ent} (sg : Nat) (ty d1 d2 u1 u2 : ByteArray) (l : List Uid) (lA : Option Addr) (lc : Nat) (w : World) (hu : zaw (u1, u2)) (hd : zaw (d1, d2)) (hst : StoreV w (.pointer (some ⟨sg, 0, none⟩)) c) (hl : uidR.RowsAt (fun b => b < w.heap.size) w l (.slice lA l.length lc)) :
  Calls Tryz.prog 20 #[.agg ([.int .i64 2, .string ty, .string d1, .string d2, .bool true, .slice lA l.length lc] : List Value).toArray, .agg #[.string u1, .string u2], (.pointer (some ⟨sg, 0, none⟩))] w (zai ((Scp.mk 2 ty (d1, d2) true l).holds c (u1, u2)) w) := by
 obtain ⟨res, hres⟩ : ∃ res, (Scp.mk 2 ty (d1, d2) true l).holds c (u1, u2) = res := ⟨_, rfl⟩
 rw [hres]
 obtain ⟨p0, p1, p2, ps, px⟩ := zax w (.cells #[.int .i64 2, .string ty, .string d1, .string d2, .bool true, .slice lA l.length lc] 52) (.cells #[.string u1, .string u2] 23) (.cells #[(.pointer (some ⟨sg, 0, none⟩))] 42)
 have HP0 := q_ p0
 have HU0 := q_ p1
 have HS0 := q_ p2
 have HX0 := q_ px
 clear p0 p1 p2 ps px
 have HDc := q_ (zag (pre := [.int .i64 2, .string ty]) (cs := [.string d1, .string d2]) (r := [.bool true, .slice lA l.length lc]) HP0.out)
 have hh : res = (false, 32) := by rw [← hres]; unfold Scp.holds; simp
 subst hh
 clear hres hu hd hst hl
 go_enter Tryz.func20, Tryz.ntmps20
 go_wp2_with (first | (with_reducible refine zae ?_; refine zaa rfl 23 _ rfl (w.heap.size + 1) 0 rfl zac zab (cs := [.string u1, .string u2]) rfl (zad HU0.out) ?_) | (with_reducible refine zae ?_; refine zaa rfl 23 _ rfl w.heap.size 2 rfl zac zab (cs := [.string d1, .string d2]) rfl HDc.out ?_))
 go_ret2
 exact ⟨rfl, HX0.out⟩
theorem holds_s_2f {c : List Ent} (sg : Nat) (ty d1 d2 u1 u2 : ByteArray) (l : List Uid) (lA : Option Addr) (lc : Nat) (w : World) (hu : zaw (u1, u2)) (hd : zaw (d1, d2)) (hst : StoreV w (.pointer (some ⟨sg, 0, none⟩)) c) (hl : uidR.RowsAt (fun b => b < w.heap.size) w l (.slice lA l.length lc)) :
  Calls Tryz.prog 20 #[.agg ([.int .i64 2, .string ty, .string d1, .string d2, .bool false, .slice lA l.length lc] : List Value).toArray, .agg #[.string u1, .string u2], (.pointer (some ⟨sg, 0, none⟩))] w (zai ((Scp.mk 2 ty (d1, d2) false l).holds c (u1, u2)) w) := by
 obtain ⟨res, hres⟩ : ∃ res, (Scp.mk 2 ty (d1, d2) false l).holds c (u1, u2) = res := ⟨_, rfl⟩
 rw [hres]
 obtain ⟨p0, p1, p2, ps, px⟩ := zax w (.cells #[.int .i64 2, .string ty, .string d1, .string d2, .bool false, .slice lA l.length lc] 52) (.cells #[.string u1, .string u2] 23) (.cells #[(.pointer (some ⟨sg, 0, none⟩))] 42)
 have HP0 := q_ p0
 have HU0 := q_ p1
 have HS0 := q_ p2
 have HX0 := q_ px
 clear p0 p1 p2 ps px
 have HDc := q_ (zag (pre := [.int .i64 2, .string ty]) (cs := [.string d1, .string d2]) (r := [.bool false, .slice lA l.length lc]) HP0.out)
 have hc := inV_ok (.pointer (some ⟨sg, 0, none⟩)) c (u1, u2) (d1, d2) (((w.alloc (.cells #[.int .i64 2, .string ty, .string d1, .string d2, .bool false, .slice lA l.length lc] 52)).alloc (.cells #[.string u1, .string u2] 23)).alloc (.cells #[(.pointer (some ⟨sg, 0, none⟩))] 42)) hu hd (hst.ext HX0.out)
 obtain ⟨r, hr⟩ : ∃ r, inB c (u1, u2) (d1, d2) = r := ⟨_, rfl⟩
 have hh : res = (r, 0) := by rw [← hres, ← hr]; unfold Scp.holds; simp
 rw [hr] at hc
 subst hh
 have HC := q_ hc
 clear hres hu hd hst hl hc hr
 go_enter Tryz.func20, Tryz.ntmps20
 go_wp2_with (first | (with_reducible refine zae ?_; refine zaa rfl 23 _ rfl (w.heap.size + 1) 0 rfl zac zab (cs := [.string u1, .string u2]) rfl (zad HU0.out) ?_) | (with_reducible refine zae ?_; refine zaa rfl 23 _ rfl w.heap.size 2 rfl zac zab (cs := [.string d1, .string d2]) rfl HDc.out ?_))
 refine HC.out.mono ?_
 rintro e1 w1 ⟨rfl, hx1⟩
 have HX1 := q_ (HX0.out.trans hx1)
 clear hx1
 go_wp2_with fail
 go_ret2
 exact ⟨rfl, HX1.out⟩
theorem holds_s_3t {c : List Ent} (sg : Nat) (ty d1 d2 u1 u2 : ByteArray) (l : List Uid) (lA : Option Addr) (lc : Nat) (w : World) (hu : zaw (u1, u2)) (hd : zaw (d1, d2)) (hst : StoreV w (.pointer (some ⟨sg, 0, none⟩)) c) (hl : uidR.RowsAt (fun b => b < w.heap.size) w l (.slice lA l.length lc)) :
  Calls Tryz.prog 20 #[.agg ([.int .i64 3, .string ty, .string d1, .string d2, .bool true, .slice lA l.length lc] : List Value).toArray, .agg #[.string u1, .string u2], (.pointer (some ⟨sg, 0, none⟩))] w (zai ((Scp.mk 3 ty (d1, d2) true l).holds c (u1, u2)) w) := by
 obtain ⟨res, hres⟩ : ∃ res, (Scp.mk 3 ty (d1, d2) true l).holds c (u1, u2) = res := ⟨_, rfl⟩
 rw [hres]
 obtain ⟨p0, p1, p2, ps, px⟩ := zax w (.cells #[.int .i64 3, .string ty, .string d1, .string d2, .bool true, .slice lA l.length lc] 52) (.cells #[.string u1, .string u2] 23) (.cells #[(.pointer (some ⟨sg, 0, none⟩))] 42)
 have HP0 := q_ p0
 have HU0 := q_ p1
 have HS0 := q_ p2
 have HX0 := q_ px
 clear p0 p1 p2 ps px
 have HDc := q_ (zag (pre := [.int .i64 3, .string ty]) (cs := [.string d1, .string d2]) (r := [.bool true, .slice lA l.length lc]) HP0.out)
 have hq := zb0 u1 ty
 obtain ⟨r, hr⟩ : ∃ r, (u1.toList == ty.toList) = r := ⟨_, rfl⟩
 rw [hr] at hq
 have hh : res = (r, 0) := by rw [← hres, ← hq]; unfold Scp.holds; simp
 subst hh
 clear hres hu hd hst hl hq
 go_enter Tryz.func20, Tryz.ntmps20
 go_wp2_with (first | (with_reducible refine zae ?_; refine zaa rfl 23 _ rfl (w.heap.size + 1) 0 rfl zac zab (cs := [.string u1, .string u2]) rfl (zad HU0.out) ?_) | (with_reducible refine zae ?_; refine zaa rfl 23 _ rfl w.heap.size 2 rfl zac zab (cs := [.string d1, .string d2]) rfl HDc.out ?_))
 go_ret2
 exact ⟨rfl, HX0.out⟩
theorem holds_s_3f {c : List Ent} (sg : Nat) (ty d1 d2 u1 u2 : ByteArray) (l : List Uid) (lA : Option Addr) (lc : Nat) (w : World) (hu : zaw (u1, u2)) (hd : zaw (d1, d2)) (hst : StoreV w (.pointer (some ⟨sg, 0, none⟩)) c) (hl : uidR.RowsAt (fun b => b < w.heap.size) w l (.slice lA l.length lc)) :
  Calls Tryz.prog 20 #[.agg ([.int .i64 3, .string ty, .string d1, .string d2, .bool false, .slice lA l.length lc] : List Value).toArray, .agg #[.string u1, .string u2], (.pointer (some ⟨sg, 0, none⟩))] w (zai ((Scp.mk 3 ty (d1, d2) false l).holds c (u1, u2)) w) := by
 obtain ⟨res, hres⟩ : ∃ res, (Scp.mk 3 ty (d1, d2) false l).holds c (u1, u2) = res := ⟨_, rfl⟩
 rw [hres]
 obtain ⟨p0, p1, p2, ps, px⟩ := zax w (.cells #[.int .i64 3, .string ty, .string d1, .string d2, .bool false, .slice lA l.length lc] 52) (.cells #[.string u1, .string u2] 23) (.cells #[(.pointer (some ⟨sg, 0, none⟩))] 42)
 have HP0 := q_ p0
 have HU0 := q_ p1
 have HS0 := q_ p2
 have HX0 := q_ px
 clear p0 p1 p2 ps px
 have HDc := q_ (zag (pre := [.int .i64 3, .string ty]) (cs := [.string d1, .string d2]) (r := [.bool false, .slice lA l.length lc]) HP0.out)
 have hq := zb0 u1 ty
 obtain ⟨r, hr⟩ : ∃ r, (u1.toList == ty.toList) = r := ⟨_, rfl⟩
 rw [hr] at hq
 have hh : res = (r, 0) := by rw [← hres, ← hq]; unfold Scp.holds; simp
 subst hh
 clear hres hu hd hst hl hq
 go_enter Tryz.func20, Tryz.ntmps20
 go_wp2_with (first | (with_reducible refine zae ?_; refine zaa rfl 23 _ rfl (w.heap.size + 1) 0 rfl zac zab (cs := [.string u1, .string u2]) rfl (zad HU0.out) ?_) | (with_reducible refine zae ?_; refine zaa rfl 23 _ rfl w.heap.size 2 rfl zac zab (cs := [.string d1, .string d2]) rfl HDc.out ?_))
 go_ret2
 exact ⟨rfl, HX0.out⟩
theorem holds_s_4t {c : List Ent} (sg : Nat) (ty d1 d2 u1 u2 : ByteArray) (l : List Uid) (lA : Option Addr) (lc : Nat) (w : World) (hu : zaw (u1, u2)) (hd : zaw (d1, d2)) (hst : StoreV w (.pointer (some ⟨sg, 0, none⟩)) c) (hl : uidR.RowsAt (fun b => b < w.heap.size) w l (.slice lA l.length lc)) :
  Calls Tryz.prog 20 #[.agg ([.int .i64 4, .string ty, .string d1, .string d2, .bool true, .slice lA l.length lc] : List Value).toArray, .agg #[.string u1, .string u2], (.pointer (some ⟨sg, 0, none⟩))] w (zai ((Scp.mk 4 ty (d1, d2) true l).holds c (u1, u2)) w) := by
 obtain ⟨res, hres⟩ : ∃ res, (Scp.mk 4 ty (d1, d2) true l).holds c (u1, u2) = res := ⟨_, rfl⟩
 rw [hres]
 obtain ⟨p0, p1, p2, ps, px⟩ := zax w (.cells #[.int .i64 4, .string ty, .string d1, .string d2, .bool true, .slice lA l.length lc] 52) (.cells #[.string u1, .string u2] 23) (.cells #[(.pointer (some ⟨sg, 0, none⟩))] 42)
 have HP0 := q_ p0
 have HU0 := q_ p1
 have HS0 := q_ p2
 have HX0 := q_ px
 clear p0 p1 p2 ps px
 have HDc := q_ (zag (pre := [.int .i64 4, .string ty]) (cs := [.string d1, .string d2]) (r := [.bool true, .slice lA l.length lc]) HP0.out)
 have hh : res = (false, 32) := by rw [← hres]; unfold Scp.holds; simp
 subst hh
 clear hres hu hd hst hl
 go_enter Tryz.func20, Tryz.ntmps20
 go_wp2_with (first | (with_reducible refine zae ?_; refine zaa rfl 23 _ rfl (w.heap.size + 1) 0 rfl zac zab (cs := [.string u1, .string u2]) rfl (zad HU0.out) ?_) | (with_reducible refine zae ?_; refine zaa rfl 23 _ rfl w.heap.size 2 rfl zac zab (cs := [.string d1, .string d2]) rfl HDc.out ?_))
 go_ret2
 exact ⟨rfl, HX0.out⟩
theorem holds_s_4f {c : List Ent} (sg : Nat) (ty d1 d2 u1 u2 : ByteArray) (l : List Uid) (lA : Option Addr) (lc : Nat) (w : World) (hu : zaw (u1, u2)) (hd : zaw (d1, d2)) (hst : StoreV w (.pointer (some ⟨sg, 0, none⟩)) c) (hl : uidR.RowsAt (fun b => b < w.heap.size) w l (.slice lA l.length lc)) :
  Calls Tryz.prog 20 #[.agg ([.int .i64 4, .string ty, .string d1, .string d2, .bool false, .slice lA l.length lc] : List Value).toArray, .agg #[.string u1, .string u2], (.pointer (some ⟨sg, 0, none⟩))] w (zai ((Scp.mk 4 ty (d1, d2) false l).holds c (u1, u2)) w) := by
 obtain ⟨res, hres⟩ : ∃ res, (Scp.mk 4 ty (d1, d2) false l).holds c (u1, u2) = res := ⟨_, rfl⟩
 rw [hres]
 obtain ⟨p0, p1, p2, ps, px⟩ := zax w (.cells #[.int .i64 4, .string ty, .string d1, .string d2, .bool false, .slice lA l.length lc] 52) (.cells #[.string u1, .string u2] 23) (.cells #[(.pointer (some ⟨sg, 0, none⟩))] 42)
 have HP0 := q_ p0
 have HU0 := q_ p1
 have HS0 := q_ p2
 have HX0 := q_ px
 clear p0 p1 p2 ps px
 have HDc := q_ (zag (pre := [.int .i64 4, .string ty]) (cs := [.string d1, .string d2]) (r := [.bool false, .slice lA l.length lc]) HP0.out)
 have hq := zb0 u1 ty
 obtain ⟨r, hr⟩ : ∃ r, (u1.toList == ty.toList) = r := ⟨_, rfl⟩
 rw [hr] at hq
 have hc := inV_ok (.pointer (some ⟨sg, 0, none⟩)) c (u1, u2) (d1, d2) (((w.alloc (.cells #[.int .i64 4, .string ty, .string d1, .string d2, .bool false, .slice lA l.length lc] 52)).alloc (.cells #[.string u1, .string u2] 23)).alloc (.cells #[(.pointer (some ⟨sg, 0, none⟩))] 42)) hu hd (hst.ext HX0.out)
 obtain ⟨s, hs⟩ : ∃ s, inB c (u1, u2) (d1, d2) = s := ⟨_, rfl⟩
 rw [hs] at hc
 have hh : res = (r && s, 0) := by rw [← hres, ← hq, ← hs]; unfold Scp.holds; simp
 subst hh
 have HC := q_ hc
 clear hres hu hd hst hl hc hs hq
 cases r with
 | false =>
  go_enter Tryz.func20, Tryz.ntmps20
  go_wp2_with (first | (with_reducible refine zae ?_; refine zaa rfl 23 _ rfl (w.heap.size + 1) 0 rfl zac zab (cs := [.string u1, .string u2]) rfl (zad HU0.out) ?_) | (with_reducible refine zae ?_; refine zaa rfl 23 _ rfl w.heap.size 2 rfl zac zab (cs := [.string d1, .string d2]) rfl HDc.out ?_))
  go_ret2
  exact ⟨rfl, HX0.out⟩
 | true =>
  go_enter Tryz.func20, Tryz.ntmps20
  go_wp2_with (first | (with_reducible refine zae ?_; refine zaa rfl 23 _ rfl (w.heap.size + 1) 0 rfl zac zab (cs := [.string u1, .string u2]) rfl (zad HU0.out) ?_) | (with_reducible refine zae ?_; refine zaa rfl 23 _ rfl w.heap.size 2 rfl zac zab (cs := [.string d1, .string d2]) rfl HDc.out ?_))
  refine HC.out.mono ?_
  rintro e1 w1 ⟨rfl, hx1⟩
  have HX1 := q_ (HX0.out.trans hx1)
  clear hx1
  go_wp2_with fail
  go_ret2
  exact ⟨rfl, HX1.out⟩
theorem holds_s_5t {c : List Ent} (sg : Nat) (ty d1 d2 u1 u2 : ByteArray) (l : List Uid) (lA : Option Addr) (lc : Nat) (w : World) (hu : zaw (u1, u2)) (hd : zaw (d1, d2)) (hst : StoreV w (.pointer (some ⟨sg, 0, none⟩)) c) (hl : uidR.RowsAt (fun b => b < w.heap.size) w l (.slice lA l.length lc)) :
  Calls Tryz.prog 20 #[.agg ([.int .i64 5, .string ty, .string d1, .string d2, .bool true, .slice lA l.length lc] : List Value).toArray, .agg #[.string u1, .string u2], (.pointer (some ⟨sg, 0, none⟩))] w (zai ((Scp.mk 5 ty (d1, d2) true l).holds c (u1, u2)) w) := by
 obtain ⟨res, hres⟩ : ∃ res, (Scp.mk 5 ty (d1, d2) true l).holds c (u1, u2) = res := ⟨_, rfl⟩
 rw [hres]
 obtain ⟨p0, p1, p2, ps, px⟩ := zax w (.cells #[.int .i64 5, .string ty, .string d1, .string d2, .bool true, .slice lA l.length lc] 52) (.cells #[.string u1, .string u2] 23) (.cells #[(.pointer (some ⟨sg, 0, none⟩))] 42)
 have HP0 := q_ p0
 have HU0 := q_ p1
 have HS0 := q_ p2
 have HX0 := q_ px
 clear p0 p1 p2 ps px
 have HDc := q_ (zag (pre := [.int .i64 5, .string ty]) (cs := [.string d1, .string d2]) (r := [.bool true, .slice lA l.length lc]) HP0.out)
 have hc := za5 46 #[.pointer (some ⟨w.heap.size + 2, 0, none⟩), .pointer (some ⟨w.heap.size + 1, 0, none⟩)] (fun x => inB c (u1, u2) x) (fun b => b < (((w.alloc (.cells #[.int .i64 5, .string ty, .string d1, .string d2, .bool true, .slice lA l.length lc] 52)).alloc (.cells #[.string u1, .string u2] 23)).alloc (.cells #[(.pointer (some ⟨sg, 0, none⟩))] 42)).heap.size) l (.slice lA l.length lc) (((w.alloc (.cells #[.int .i64 5, .string ty, .string d1, .string d2, .bool true, .slice lA l.length lc] 52)).alloc (.cells #[.string u1, .string u2] 23)).alloc (.cells #[(.pointer (some ⟨sg, 0, none⟩))] 42)) zbu (fun _ h => h) ((hl.alike (Alike.of_ext HX0.out fun _ h => h)).mono fun b hb => Nat.lt_of_lt_of_le hb HX0.out.size)
  (fun x _ hx w1 hw1 => holds1 (.pointer (some ⟨sg, 0, none⟩)) (u1, u2) x w1 (w.heap.size + 2) (w.heap.size + 1) hu hx (hst.ext (HX0.out.trans hw1)) ((hw1.block _ (zaf HS0.out)).trans HS0.out) ((hw1.block _ (zaf HU0.out)).trans HU0.out))
 obtain ⟨r, hr⟩ : ∃ r, (l.any fun x => inB c (u1, u2) x) = r := ⟨_, rfl⟩
 have hh : res = (r, 0) := by rw [← hres, ← hr]; unfold Scp.holds; simp
 rw [hr] at hc
 subst hh
 have HC := q_ hc
 clear hres hu hd hst hl hc hr
 go_enter Tryz.func20, Tryz.ntmps20
 go_wp2_with (first | (with_reducible refine zae ?_; refine zaa rfl 23 _ rfl (w.heap.size + 1) 0 rfl zac zab (cs := [.string u1, .string u2]) rfl (zad HU0.out) ?_) | (with_reducible refine zae ?_; refine zaa rfl 23 _ rfl w.heap.size 2 rfl zac zab (cs := [.string d1, .string d2]) rfl HDc.out ?_))
 refine HC.out.mono ?_
 rintro e1 w1 ⟨rfl, hx1⟩
 have HX1 := q_ (HX0.out.trans hx1)
 clear hx1
 go_wp2_with fail
 go_ret2
 exact ⟨rfl, HX1.out⟩
theorem holds_s_5f {c : List Ent} (sg : Nat) (ty d1 d2 u1 u2 : ByteArray) (l : List Uid) (lA : Option Addr) (lc : Nat) (w : World) (hu : zaw (u1, u2)) (hd : zaw (d1, d2)) (hst : StoreV w (.pointer (some ⟨sg, 0, none⟩)) c) (hl : uidR.RowsAt (fun b => b < w.heap.size) w l (.slice lA l.length lc)) :
  Calls Tryz.prog 20 #[.agg ([.int .i64 5, .string ty, .string d1, .string d2, .bool false, .slice lA l.length lc] : List Value).toArray, .agg #[.string u1, .string u2], (.pointer (some ⟨sg, 0, none⟩))] w (zai ((Scp.mk 5 ty (d1, d2) false l).holds c (u1, u2)) w) := by
 obtain ⟨res, hres⟩ : ∃ res, (Scp.mk 5 ty (d1, d2) false l).holds c (u1, u2) = res := ⟨_, rfl⟩
 rw [hres]
 obtain ⟨p0, p1, p2, ps, px⟩ := zax w (.cells #[.int .i64 5, .string ty, .string d1, .string d2, .bool false, .slice lA l.length lc] 52) (.cells #[.string u1, .string u2] 23) (.cells #[(.pointer (some ⟨sg, 0, none⟩))] 42)
 have HP0 := q_ p0
 have HU0 := q_ p1
 have HS0 := q_ p2
 have HX0 := q_ px
 clear p0 p1 p2 ps px
 have HDc := q_ (zag (pre := [.int .i64 5, .string ty]) (cs := [.string d1, .string d2]) (r := [.bool false, .slice lA l.length lc]) HP0.out)
 have hc := za5 46 #[.pointer (some ⟨w.heap.size + 2, 0, none⟩), .pointer (some ⟨w.heap.size + 1, 0, none⟩)] (fun x => inB c (u1, u2) x) (fun b => b < (((w.alloc (.cells #[.int .i64 5, .string ty, .string d1, .string d2, .bool false, .slice lA l.length lc] 52)).alloc (.cells #[.string u1, .string u2] 23)).alloc (.cells #[(.pointer (some ⟨sg, 0, none⟩))] 42)).heap.size) l (.slice lA l.length lc) (((w.alloc (.cells #[.int .i64 5, .string ty, .string d1, .string d2, .bool false, .slice lA l.length lc] 52)).alloc (.cells #[.string u1, .string u2] 23)).alloc (.cells #[(.pointer (some ⟨sg, 0, none⟩))] 42)) zbu (fun _ h => h) ((hl.alike (Alike.of_ext HX0.out fun _ h => h)).mono fun b hb => Nat.lt_of_lt_of_le hb HX0.out.size)
  (fun x _ hx w1 hw1 => holds1 (.pointer (some ⟨sg, 0, none⟩)) (u1, u2) x w1 (w.heap.size + 2) (w.heap.size + 1) hu hx (hst.ext (HX0.out.trans hw1)) ((hw1.block _ (zaf HS0.out)).trans HS0.out) ((hw1.block _ (zaf HU0.out)).trans HU0.out))
 obtain ⟨r, hr⟩ : ∃ r, (l.any fun x => inB c (u1, u2) x) = r := ⟨_, rfl⟩
 have hh : res = (r, 0) := by rw [← hres, ← hr]; unfold Scp.holds; simp
 rw [hr] at hc
 subst hh
 have HC := q_ hc
 clear hres hu hd hst hl hc hr
 go_enter Tryz.func20, Tryz.ntmps20
 go_wp2_with (first | (with_reducible refine zae ?_; refine zaa rfl 23 _ rfl (w.heap.size + 1) 0 rfl zac zab (cs := [.string u1, .string u2]) rfl (zad HU0.out) ?_) | (with_reducible refine zae ?_; refine zaa rfl 23 _ rfl w.heap.size 2 rfl zac zab (cs := [.string d1, .string d2]) rfl HDc.out ?_))
 refine HC.out.mono ?_
 rintro e1 w1 ⟨rfl, hx1⟩
 have HX1 := q_ (HX0.out.trans hx1)
 clear hx1
 go_wp2_with fail
 go_ret2
 exact ⟨rfl, HX1.out⟩
theorem holds_s_xt {c : List Ent} (pk : Int) (hpk : pk ≠ 0 ∧ pk ≠ 1 ∧ pk ≠ 2 ∧ pk ≠ 3 ∧ pk ≠ 4 ∧ pk ≠ 5) (sg : Nat) (ty d1 d2 u1 u2 : ByteArray) (l : List Uid) (lA : Option Addr) (lc : Nat) (w : World) (hu : zaw (u1, u2)) (hd : zaw (d1, d2)) (hst : StoreV w (.pointer (some ⟨sg, 0, none⟩)) c) (hl : uidR.RowsAt (fun b => b < w.heap.size) w l (.slice lA l.length lc)) :
  Calls Tryz.prog 20 #[.agg ([.int .i64 pk, .string ty, .string d1, .string d2, .bool true, .slice lA l.length lc] : List Value).toArray, .agg #[.string u1, .string u2], (.pointer (some ⟨sg, 0, none⟩))] w (zai ((Scp.mk pk ty (d1, d2) true l).holds c (u1, u2)) w) := by
 obtain ⟨res, hres⟩ : ∃ res, (Scp.mk pk ty (d1, d2) true l).holds c (u1, u2) = res := ⟨_, rfl⟩
 rw [hres]
 obtain ⟨p0, p1, p2, ps, px⟩ := zax w (.cells #[.int .i64 pk, .string ty, .string d1, .string d2, .bool true, .slice lA l.length lc] 52) (.cells #[.string u1, .string u2] 23) (.cells #[(.pointer (some ⟨sg, 0, none⟩))] 42)
 have HP0 := q_ p0
 have HU0 := q_ p1
 have HS0 := q_ p2
 have HX0 := q_ px
 clear p0 p1 p2 ps px
 have HDc := q_ (zag (pre := [.int .i64 pk, .string ty]) (cs := [.string d1, .string d2]) (r := [.bool true, .slice lA l.length lc]) HP0.out)
 have e0 : (pk == 0) = false := by simp; omega
 have e1 : (pk == 1) = false := by simp; omega
 have e2 : (pk == 2) = false := by simp; omega
 have e3 : (pk == 3) = false := by simp; omega
 have e4 : (pk == 4) = false := by simp; omega
 have e5 : (pk == 5) = false := by simp; omega
 have hh : res = (false, 1) := by rw [← hres]; unfold Scp.holds; simp [hpk]
 subst hh
 clear hres hu hd hst hl hpk
 go_enter Tryz.func20, Tryz.ntmps20
 go_wp2_with (first | (with_reducible refine zae ?_; refine zaa rfl 23 _ rfl (w.heap.size + 1) 0 rfl zac zab (cs := [.string u1, .string u2]) rfl (zad HU0.out) ?_) | (with_reducible refine zae ?_; refine zaa rfl 23 _ rfl w.heap.size 2 rfl zac zab (cs := [.string d1, .string d2]) rfl HDc.out ?_))
 go_ret2
 exact ⟨rfl, HX0.out⟩
theorem holds_s_xf {c : List Ent} (pk : Int) (hpk : pk ≠ 0 ∧ pk ≠ 1 ∧ pk ≠ 2 ∧ pk ≠ 3 ∧ pk ≠ 4 ∧ pk ≠ 5) (sg : Nat) (ty d1 d2 u1 u2 : ByteArray) (l : List Uid) (lA : Option Addr) (lc : Nat) (w : World) (hu : zaw (u1, u2)) (hd : zaw (d1, d2)) (hst : StoreV w (.pointer (some ⟨sg, 0, none⟩)) c) (hl : uidR.RowsAt (fun b => b < w.heap.size) w l (.slice lA l.length lc)) :
  Calls Tryz.prog 20 #[.agg ([.int .i64 pk, .string ty, .string d1, .string d2, .bool false, .slice lA l.length lc] : List Value).toArray, .agg #[.string u1, .string u2], (.pointer (some ⟨sg, 0, none⟩))] w (zai ((Scp.mk pk ty (d1, d2) false l).holds c (u1, u2)) w) := by
 obtain ⟨res, hres⟩ : ∃ res, (Scp.mk pk ty (d1, d2) false l).holds c (u1, u2) = res := ⟨_, rfl⟩
 rw [hres]
 obtain ⟨p0, p1, p2, ps, px⟩ := zax w (.cells #[.int .i64 pk, .string ty, .string d1, .string d2, .bool false, .slice lA l.length lc] 52) (.cells #[.string u1, .string u2] 23) (.cells #[(.pointer (some ⟨sg, 0, none⟩))] 42)
 have HP0 := q_ p0
 have HU0 := q_ p1
 have HS0 := q_ p2
 have HX0 := q_ px
 clear p0 p1 p2 ps px
 have HDc := q_ (zag (pre := [.int .i64 pk, .string ty]) (cs := [.string d1, .string d2]) (r := [.bool false, .slice lA l.length lc]) HP0.out)
 have e0 : (pk == 0) = false := by simp; omega
 have e1 : (pk == 1) = false := by simp; omega
 have e2 : (pk == 2) = false := by simp; omega
 have e3 : (pk == 3) = false := by simp; omega
 have e4 : (pk == 4) = false := by simp; omega
 have e5 : (pk == 5) = false := by simp; omega
 have hh : res = (false, 1) := by rw [← hres]; unfold Scp.holds; simp [hpk]
 subst hh
 clear hres hu hd hst hl hpk
 go_enter Tryz.func20, Tryz.ntmps20
 go_wp2_with (first | (with_reducible refine zae ?_; refine zaa rfl 23 _ rfl (w.heap.size + 1) 0 rfl zac zab (cs := [.string u1, .string u2]) rfl (zad HU0.out) ?_) | (with_reducible refine zae ?_; refine zaa rfl 23 _ rfl w.heap.size 2 rfl zac zab (cs := [.string d1, .string d2]) rfl HDc.out ?_))
 go_ret2
 exact ⟨rfl, HX0.out⟩
theorem holdsM_ok {c : List Ent} (p : Scp) (u : Uid) (pv : Value) (w : World) (pc : List Value) (hu : zaw u) (hp : scpR.At (fun b => b < w.heap.size) w p pc) (hst : StoreV w pv c) :
  Calls Tryz.prog 20 #[.agg pc.toArray, valU u, pv] w (zai (p.holds c u) w) := by
 obtain ⟨pk, ty, ⟨d1, d2⟩, slot, l⟩ := p
 obtain ⟨v, rfl, _, _, hd, hl⟩ := hp
 obtain ⟨lA, lc, rfl, hl1⟩ := id hl
 obtain ⟨u1, u2⟩ := u
 have hk : pk = 0 ∨ pk = 1 ∨ pk = 2 ∨ pk = 3 ∨ pk = 4 ∨ pk = 5 ∨ (pk ≠ 0 ∧ pk ≠ 1 ∧ pk ≠ 2 ∧ pk ≠ 3 ∧ pk ≠ 4 ∧ pk ≠ 5) := by omega
 rcases id hst with ⟨rfl, _⟩ | ⟨sg, rfl, _⟩
 ·rcases hk with rfl | rfl | rfl | rfl | rfl | rfl | hk <;> cases slot
  ·exact holds_n_0f ty d1 d2 u1 u2 l lA lc w hu hd hst hl
  ·exact holds_n_0t ty d1 d2 u1 u2 l lA lc w hu hd hst hl
  ·exact holds_n_1f ty d1 d2 u1 u2 l lA lc w hu hd hst hl
  ·exact holds_n_1t ty d1 d2 u1 u2 l lA lc w hu hd hst hl
  ·exact holds_n_2f ty d1 d2 u1 u2 l lA lc w hu hd hst hl
  ·exact holds_n_2t ty d1 d2 u1 u2 l lA lc w hu hd hst hl
  ·exact holds_n_3f ty d1 d2 u1 u2 l lA lc w hu hd hst hl
  ·exact holds_n_3t ty d1 d2 u1 u2 l lA lc w hu hd hst hl
  ·exact holds_n_4f ty d1 d2 u1 u2 l lA lc w hu hd hst hl
  ·exact holds_n_4t ty d1 d2 u1 u2 l lA lc w hu hd hst hl
  ·exact holds_n_5f ty d1 d2 u1 u2 l lA lc w hu hd hst hl
  ·exact holds_n_5t ty d1 d2 u1 u2 l lA lc w hu hd hst hl
  ·exact holds_n_xf pk hk ty d1 d2 u1 u2 l lA lc w hu hd hst hl
  ·exact holds_n_xt pk hk ty d1 d2 u1 u2 l lA lc w hu hd hst hl
 ·rcases hk with rfl | rfl | rfl | rfl | rfl | rfl | hk <;> cases slot
  ·exact holds_s_0f sg ty d1 d2 u1 u2 l lA lc w hu hd hst hl
  ·exact holds_s_0t sg ty d1 d2 u1 u2 l lA lc w hu hd hst hl
  ·exact holds_s_1f sg ty d1 d2 u1 u2 l lA lc w hu hd hst hl
  ·exact holds_s_1t sg ty d1 d2 u1 u2 l lA lc w hu hd hst hl
  ·exact holds_s_2f sg ty d1 d2 u1 u2 l lA lc w hu hd hst hl
  ·exact holds_s_2t sg ty d1 d2 u1 u2 l lA lc w hu hd hst hl
  ·exact holds_s_3f sg ty d1 d2 u1 u2 l lA lc w hu hd hst hl
  ·exact holds_s_3t sg ty d1 d2 u1 u2 l lA lc w hu hd hst hl
  ·exact holds_s_4f sg ty d1 d2 u1 u2 l lA lc w hu hd hst hl
  ·exact holds_s_4t sg ty d1 d2 u1 u2 l lA lc w hu hd hst hl
  ·exact holds_s_5f sg ty d1 d2 u1 u2 l lA lc w hu hd hst hl
  ·exact holds_s_5t sg ty d1 d2 u1 u2 l lA lc w hu hd hst hl
  ·exact holds_s_xf pk hk sg ty d1 d2 u1 u2 l lA lc w hu hd hst hl
  ·exact holds_s_xt pk hk sg ty d1 d2 u1 u2 l lA lc w hu hd hst hl
end Go.Proofs.YtebfoimbdljbmaaGreatDoor
