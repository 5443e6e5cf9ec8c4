/-
  decide.Takes of a policy without conditions, with no store. The conditions: what is handed in lies in memory as it should.
-/
import Derived.Test.YtebfoimbdljbmaaGreatDoorEvHQ
import Derived.Test.YtebfoimbdljbmaaGreatDoorEvGQ
namespace Go.Proofs.YtebfoimbdljbmaaGreatDoor
open Go.RowKit
open Lib renaming hid → q_
set_option maxRecDepth 100000
set_option maxHeartbeats 4000000
noncomputable def zbb (pr ac re : Scp) (q : Req) : Bool × Int :=
 if (pr.holds [] q.pr).2 ≠ 0 ∨ (pr.holds [] q.pr).1 = false then (false, (pr.holds [] q.pr).2) else
 if (ac.holds [] q.act).2 ≠ 0 ∨ (ac.holds [] q.act).1 = false then (false, (ac.holds [] q.act).2) else
 if (re.holds [] q.res).2 ≠ 0 ∨ (re.holds [] q.res).1 = false then (false, (re.holds [] q.res).2) else (true, 0)
theorem zca {w w' : World} {p : Scp} {cs : List Value} (h : scpR.At (fun b => b < w.heap.size) w p cs) (k : Ext w w') : scpR.At (fun b => b < w'.heap.size) w' p cs := scpR.mono (scpR.alike h (Alike.of_ext k fun _ h => h)) fun _ hb => Nat.lt_of_lt_of_le hb k.size
theorem za0 {w : World} {o : Obj} {g : Nat} {c : Obj} (h : w.heap[g]? = some c) : (w.alloc o).heap[g]? = some c := (heap_alloc_old w o (zaf h)).trans h
theorem Tryz.ix0 (a b c d e f g h i j k l m n o p q r s t u v x y : Value) (w : World) : (Instr.index 101 (.agg #[a, b, c, d, e, f, g, h, i, j, k, l, m, n, o, p, q, r, s, t, u, v, x, y]) (.int .i64 0)).run Tryz.prog w = .ok (.agg #[a, b, c, d, e, f, g, h]) w := by kernel_rfl
theorem Tryz.ix1 (a b c d e f g h i j k l m n o p q r s t u v x y : Value) (w : World) : (Instr.index 101 (.agg #[a, b, c, d, e, f, g, h, i, j, k, l, m, n, o, p, q, r, s, t, u, v, x, y]) (.int .i64 1)).run Tryz.prog w = .ok (.agg #[i, j, k, l, m, n, o, p]) w := by kernel_rfl
theorem Tryz.ix2 (a b c d e f g h i j k l m n o p q r s t u v x y : Value) (w : World) : (Instr.index 101 (.agg #[a, b, c, d, e, f, g, h, i, j, k, l, m, n, o, p, q, r, s, t, u, v, x, y]) (.int .i64 2)).run Tryz.prog w = .ok (.agg #[q, r, s, t, u, v, x, y]) w := by kernel_rfl
theorem za7 : ∀ w, (isAgg 52).run Tryz.prog w = .ok true w := fun _ => by kernel_rfl
theorem zan : ∀ w, (Go.sizeOf 52).run Tryz.prog w = .ok 6 w := fun _ => by kernel_rfl
theorem takes0_ok (nm : ByteArray) (permit : Bool) (pr ac re : Scp) (q : Req) (w : World) (pc acl rc qc : List Value) (hp : scpR.At (fun b => b < w.heap.size) w pr pc) (ha : scpR.At (fun b => b < w.heap.size) w ac acl) (hr : scpR.At (fun b => b < w.heap.size) w re rc) (hq : InR w q qc) :
  Calls Tryz.prog 24 #[.agg (.string nm :: .bool permit :: (pc ++ (acl ++ (rc ++ [.slice none 0 0])))).toArray, .agg qc.toArray, .pointer none] w (zai (zbb pr ac re q) w) := by
 obtain ⟨res, hres⟩ : ∃ r, zbb pr ac re q = r := ⟨_, rfl⟩
 rw [hres]
 obtain ⟨_, hqe, ⟨hf1, hf2, hf3⟩, _⟩ := id hq
 clear hqe
 have Hx := q_ (fun (X : World) (k : Ext w X) => holdsM_ok (c := []) pr q.pr (.pointer none) X pc hf1 (zca hp k) (.inl ⟨rfl, rfl⟩))
 have Hy := q_ (fun (X : World) (k : Ext w X) => holdsM_ok (c := []) ac q.act (.pointer none) X acl hf2 (zca ha k) (.inl ⟨rfl, rfl⟩))
 have Hz := q_ (fun (X : World) (k : Ext w X) => holdsM_ok (c := []) re q.res (.pointer none) X rc hf3 (zca hr k) (.inl ⟨rfl, rfl⟩))
 obtain ⟨vk, vb, vn, vs, vt, vu, vA, vl, vc, vB, vm, vd, rfl, _⟩ := hq.shape
 obtain ⟨xk, xt, ⟨xd, xe⟩, xs, xl⟩ := pr
 obtain ⟨yk, yt, ⟨yd, ye⟩, ys, yl⟩ := ac
 obtain ⟨zk, zt, ⟨zd, ze⟩, zs, zl⟩ := re
 obtain ⟨_, rfl, _, _, _, xA, xc, rfl, _⟩ := hp
 obtain ⟨_, rfl, _, _, _, yA, yc, rfl, _⟩ := ha
 obtain ⟨_, rfl, _, _, _, zA, zc, rfl, _⟩ := hr
 show Calls Tryz.prog 24 #[.agg ([.string nm, .bool permit, .int .i64 xk, .string xt, .string xd, .string xe, .bool xs, .slice xA xl.length xc, .int .i64 yk, .string yt, .string yd, .string ye, .bool ys, .slice yA yl.length yc, .int .i64 zk, .string zt, .string zd, .string ze, .bool zs, .slice zA zl.length zc, .slice none 0 0] : List Value).toArray, .agg ([.string q.pr.1, .string q.pr.2, .string q.act.1, .string q.act.2, .string q.res.1, .string q.res.2, .int .i64 vk, .bool vb, .int .i64 vn, .string vs, .string vt, .string vu, .slice vA vl vc, .slice vB vm vd] : List Value).toArray, .pointer none] w (zai res w)
 obtain ⟨p0, p1, ps, px⟩ := heapA2 w (.cells #[.string nm, .bool permit, .int .i64 xk, .string xt, .string xd, .string xe, .bool xs, .slice xA xl.length xc, .int .i64 yk, .string yt, .string yd, .string ye, .bool ys, .slice yA yl.length yc, .int .i64 zk, .string zt, .string zd, .string ze, .bool zs, .slice zA zl.length zc, .slice none 0 0] 62) (.cells #[.string q.pr.1, .string q.pr.2, .string q.act.1, .string q.act.2, .string q.res.1, .string q.res.2, .int .i64 vk, .bool vb, .int .i64 vn, .string vs, .string vt, .string vu, .slice vA vl vc, .slice vB vm vd] 34)
 have HP0 := q_ p0
 have HQ0 := q_ p1
 have HX0 := q_ px
 clear p0 p1 ps px
 have HSx := q_ (zag (pre := [.string nm, .bool permit]) (cs := [.int .i64 xk, .string xt, .string xd, .string xe, .bool xs, .slice xA xl.length xc]) (r := [.int .i64 yk, .string yt, .string yd, .string ye, .bool ys, .slice yA yl.length yc, .int .i64 zk, .string zt, .string zd, .string ze, .bool zs, .slice zA zl.length zc, .slice none 0 0]) HP0.out)
 have HUx := q_ (zag (pre := []) (cs := [.string q.pr.1, .string q.pr.2]) (r := [.string q.act.1, .string q.act.2, .string q.res.1, .string q.res.2, .int .i64 vk, .bool vb, .int .i64 vn, .string vs, .string vt, .string vu, .slice vA vl vc, .slice vB vm vd]) HQ0.out)
 have HSy := q_ (zag (pre := [.string nm, .bool permit, .int .i64 xk, .string xt, .string xd, .string xe, .bool xs, .slice xA xl.length xc]) (cs := [.int .i64 yk, .string yt, .string yd, .string ye, .bool ys, .slice yA yl.length yc]) (r := [.int .i64 zk, .string zt, .string zd, .string ze, .bool zs, .slice zA zl.length zc, .slice none 0 0]) HP0.out)
 have HUy := q_ (zag (pre := [.string q.pr.1, .string q.pr.2]) (cs := [.string q.act.1, .string q.act.2]) (r := [.string q.res.1, .string q.res.2, .int .i64 vk, .bool vb, .int .i64 vn, .string vs, .string vt, .string vu, .slice vA vl vc, .slice vB vm vd]) HQ0.out)
 have HSz := q_ (zag (pre := [.string nm, .bool permit, .int .i64 xk, .string xt, .string xd, .string xe, .bool xs, .slice xA xl.length xc, .int .i64 yk, .string yt, .string yd, .string ye, .bool ys, .slice yA yl.length yc]) (cs := [.int .i64 zk, .string zt, .string zd, .string ze, .bool zs, .slice zA zl.length zc]) (r := [.slice none 0 0]) HP0.out)
 have HUz := q_ (zag (pre := [.string q.pr.1, .string q.pr.2, .string q.act.1, .string q.act.2]) (cs := [.string q.res.1, .string q.res.2]) (r := [.int .i64 vk, .bool vb, .int .i64 vn, .string vs, .string vt, .string vu, .slice vA vl vc, .slice vB vm vd]) HQ0.out)
 have HRes := q_ hres
 clear hres hq
 go_enter Tryz.func24, Tryz.ntmps24
 go_wp2_with (first | (with_reducible refine zae ?_; refine zaa rfl 52 _ rfl w.heap.size 2 rfl za7 zan (cs := [.int .i64 xk, .string xt, .string xd, .string xe, .bool xs, .slice xA xl.length xc]) rfl HSx.out ?_) | (with_reducible refine zae ?_; refine zaa rfl 23 _ rfl (w.heap.size + 1) 0 rfl zac zab (cs := [.string q.pr.1, .string q.pr.2]) rfl HUx.out ?_) | (with_reducible refine zae ?_; refine zaa rfl 52 _ rfl w.heap.size 8 rfl za7 zan (cs := [.int .i64 yk, .string yt, .string yd, .string ye, .bool ys, .slice yA yl.length yc]) rfl HSy.out ?_) | (with_reducible refine zae ?_; refine zaa rfl 23 _ rfl (w.heap.size + 1) 2 rfl zac zab (cs := [.string q.act.1, .string q.act.2]) rfl HUy.out ?_) | (with_reducible refine zae ?_; refine zaa rfl 52 _ rfl w.heap.size 14 rfl za7 zan (cs := [.int .i64 zk, .string zt, .string zd, .string ze, .bool zs, .slice zA zl.length zc]) rfl HSz.out ?_) | (with_reducible refine zae ?_; refine zaa rfl 23 _ rfl (w.heap.size + 1) 4 rfl zac zab (cs := [.string q.res.1, .string q.res.2]) rfl HUz.out ?_))
 go_loopw [32] (fun i' wr => ∃ k : Nat, k ≤ 3 ∧ i' = .int .i64 k ∧ Hid (Ext w wr) ∧ Hid (wr.heap[w.heap.size]? = some (.cells #[.string nm, .bool permit, .int .i64 xk, .string xt, .string xd, .string xe, .bool xs, .slice xA xl.length xc, .int .i64 yk, .string yt, .string yd, .string ye, .bool ys, .slice yA yl.length yc, .int .i64 zk, .string zt, .string zd, .string ze, .bool zs, .slice zA zl.length zc, .slice none 0 0] 62 (0, 0))) ∧ Hid ((1 ≤ k → (Scp.mk xk xt (xd, xe) xs xl).holds [] q.pr = (true, 0)) ∧ (2 ≤ k → (Scp.mk yk yt (yd, ye) ys yl).holds [] q.act = (true, 0)) ∧ (3 ≤ k → (Scp.mk zk zt (zd, ze) zs zl).holds [] q.res = (true, 0)))) (fun i' _ => 3 - (intOf i').toNat)
 case atStart => exact ⟨0, by omega, rfl, HX0, HP0, q_ ⟨fun h => absurd h (by omega), fun h => absurd h (by omega), fun h => absurd h (by omega)⟩⟩
 case round =>
 obtain ⟨k, hk, rfl, HX, HP, HH⟩ := hrel
 rcases (by omega : k = 0 ∨ k = 1 ∨ k = 2 ∨ k = 3) with rfl | rfl | rfl | rfl
 ·have HB0 := q_ (heap_alloc_new wr (.cells #[.int .i64 xk, .string xt, .string xd, .string xe, .bool xs, .slice xA xl.length xc, .string q.pr.1, .string q.pr.2] 100))
  have HXb := q_ (HX.out.alloc (.cells #[.int .i64 xk, .string xt, .string xd, .string xe, .bool xs, .slice xA xl.length xc, .string q.pr.1, .string q.pr.2] 100))
  have HB1 := q_ (zag (pre := []) (cs := [.int .i64 xk, .string xt, .string xd, .string xe, .bool xs, .slice xA xl.length xc]) (r := [.string q.pr.1, .string q.pr.2]) HB0.out)
  have HB2 := q_ (zag (pre := [.int .i64 xk, .string xt, .string xd, .string xe, .bool xs, .slice xA xl.length xc]) (cs := [.string q.pr.1, .string q.pr.2]) (r := []) HB0.out)
  obtain ⟨⟨tb, er⟩, hr⟩ : ∃ r, (Scp.mk xk xt (xd, xe) xs xl).holds [] q.pr = r := ⟨_, rfl⟩
  have hc := Hx.out (wr.alloc (.cells #[.int .i64 xk, .string xt, .string xd, .string xe, .bool xs, .slice xA xl.length xc, .string q.pr.1, .string q.pr.2] 100)) HXb.out
  rw [hr] at hc
  have HC := q_ hc
  have HRr := q_ hr
  clear hc hr
  have ix := fun w => Tryz.ix0 (.int .i64 xk) (.string xt) (.string xd) (.string xe) (.bool xs) (.slice xA xl.length xc) (.string q.pr.1) (.string q.pr.2) (.int .i64 yk) (.string yt) (.string yd) (.string ye) (.bool ys) (.slice yA yl.length yc) (.string q.act.1) (.string q.act.2) (.int .i64 zk) (.string zt) (.string zd) (.string ze) (.bool zs) (.slice zA zl.length zc) (.string q.res.1) (.string q.res.2) w
  go_wp2_with (first | (with_reducible refine zae ?_; refine zaa rfl 52 _ rfl wr.heap.size 0 rfl za7 zan (cs := [.int .i64 xk, .string xt, .string xd, .string xe, .bool xs, .slice xA xl.length xc]) rfl HB1.out ?_) | (with_reducible refine zae ?_; refine zaa rfl 23 _ rfl wr.heap.size 6 rfl zac zab (cs := [.string q.pr.1, .string q.pr.2]) rfl HB2.out ?_))
  refine HC.out.mono ?_
  rintro e1 w1 ⟨rfl, hx1⟩
  have HX1 := q_ (HXb.out.trans hx1)
  have HPa := q_ ((hx1.block _ (zaf (za0 HP.out))).trans (za0 HP.out))
  clear hx1 HC HB0 HB1 HB2 HXb
  by_cases h0 : er = 0
  ·subst h0
   cases tb with
   | false =>
    have hh : res = (false, 0) := by rw [← HRes.out]; unfold zbb; simp [HRr.out]
    subst hh
    go_wp2_with fail
    go_ret2
    exact ⟨rfl, HX1.out⟩
   | true =>
    go_wp2_with fail
    go_roundw
    case rel => exact ⟨1, by omega, rfl, HX1, HPa, q_ ⟨fun h => HRr.out, fun h => absurd h (by omega), fun h => absurd h (by omega)⟩⟩
    case measure => simp [intOf]
  ·have t0 : (er != 0) = true := by simpa using h0
   have hh : res = (false, er) := by rw [← HRes.out]; unfold zbb; simp [HRr.out, h0]
   subst hh
   go_wp2_with fail
   go_ret2
   exact ⟨rfl, HX1.out⟩
 ·have HB0 := q_ (heap_alloc_new wr (.cells #[.int .i64 yk, .string yt, .string yd, .string ye, .bool ys, .slice yA yl.length yc, .string q.act.1, .string q.act.2] 100))
  have HXb := q_ (HX.out.alloc (.cells #[.int .i64 yk, .string yt, .string yd, .string ye, .bool ys, .slice yA yl.length yc, .string q.act.1, .string q.act.2] 100))
  have HB1 := q_ (zag (pre := []) (cs := [.int .i64 yk, .string yt, .string yd, .string ye, .bool ys, .slice yA yl.length yc]) (r := [.string q.act.1, .string q.act.2]) HB0.out)
  have HB2 := q_ (zag (pre := [.int .i64 yk, .string yt, .string yd, .string ye, .bool ys, .slice yA yl.length yc]) (cs := [.string q.act.1, .string q.act.2]) (r := []) HB0.out)
  obtain ⟨⟨tb, er⟩, hr⟩ : ∃ r, (Scp.mk yk yt (yd, ye) ys yl).holds [] q.act = r := ⟨_, rfl⟩
  have hc := Hy.out (wr.alloc (.cells #[.int .i64 yk, .string yt, .string yd, .string ye, .bool ys, .slice yA yl.length yc, .string q.act.1, .string q.act.2] 100)) HXb.out
  rw [hr] at hc
  have HC := q_ hc
  have HRr := q_ hr
  clear hc hr
  have ix := fun w => Tryz.ix1 (.int .i64 xk) (.string xt) (.string xd) (.string xe) (.bool xs) (.slice xA xl.length xc) (.string q.pr.1) (.string q.pr.2) (.int .i64 yk) (.string yt) (.string yd) (.string ye) (.bool ys) (.slice yA yl.length yc) (.string q.act.1) (.string q.act.2) (.int .i64 zk) (.string zt) (.string zd) (.string ze) (.bool zs) (.slice zA zl.length zc) (.string q.res.1) (.string q.res.2) w
  go_wp2_with (first | (with_reducible refine zae ?_; refine zaa rfl 52 _ rfl wr.heap.size 0 rfl za7 zan (cs := [.int .i64 yk, .string yt, .string yd, .string ye, .bool ys, .slice yA yl.length yc]) rfl HB1.out ?_) | (with_reducible refine zae ?_; refine zaa rfl 23 _ rfl wr.heap.size 6 rfl zac zab (cs := [.string q.act.1, .string q.act.2]) rfl HB2.out ?_))
  refine HC.out.mono ?_
  rintro e1 w1 ⟨rfl, hx1⟩
  have HX1 := q_ (HXb.out.trans hx1)
  have HPa := q_ ((hx1.block _ (zaf (za0 HP.out))).trans (za0 HP.out))
  clear hx1 HC HB0 HB1 HB2 HXb
  by_cases h0 : er = 0
  ·subst h0
   cases tb with
   | false =>
    have hh : res = (false, 0) := by rw [← HRes.out]; unfold zbb; simp [HH.out.1 (by omega), HRr.out]
    subst hh
    go_wp2_with fail
    go_ret2
    exact ⟨rfl, HX1.out⟩
   | true =>
    go_wp2_with fail
    go_roundw
    case rel => exact ⟨2, by omega, rfl, HX1, HPa, q_ ⟨fun h => HH.out.1 (by omega), fun h => HRr.out, fun h => absurd h (by omega)⟩⟩
    case measure => simp [intOf]
  ·have t0 : (er != 0) = true := by simpa using h0
   have hh : res = (false, er) := by rw [← HRes.out]; unfold zbb; simp [HH.out.1 (by omega), HRr.out, h0]
   subst hh
   go_wp2_with fail
   go_ret2
   exact ⟨rfl, HX1.out⟩
 ·have HB0 := q_ (heap_alloc_new wr (.cells #[.int .i64 zk, .string zt, .string zd, .string ze, .bool zs, .slice zA zl.length zc, .string q.res.1, .string q.res.2] 100))
  have HXb := q_ (HX.out.alloc (.cells #[.int .i64 zk, .string zt, .string zd, .string ze, .bool zs, .slice zA zl.length zc, .string q.res.1, .string q.res.2] 100))
  have HB1 := q_ (zag (pre := []) (cs := [.int .i64 zk, .string zt, .string zd, .string ze, .bool zs, .slice zA zl.length zc]) (r := [.string q.res.1, .string q.res.2]) HB0.out)
  have HB2 := q_ (zag (pre := [.int .i64 zk, .string zt, .string zd, .string ze, .bool zs, .slice zA zl.length zc]) (cs := [.string q.res.1, .string q.res.2]) (r := []) HB0.out)
  obtain ⟨⟨tb, er⟩, hr⟩ : ∃ r, (Scp.mk zk zt (zd, ze) zs zl).holds [] q.res = r := ⟨_, rfl⟩
  have hc := Hz.out (wr.alloc (.cells #[.int .i64 zk, .string zt, .string zd, .string ze, .bool zs, .slice zA zl.length zc, .string q.res.1, .string q.res.2] 100)) HXb.out
  rw [hr] at hc
  have HC := q_ hc
  have HRr := q_ hr
  clear hc hr
  have ix := fun w => Tryz.ix2 (.int .i64 xk) (.string xt) (.string xd) (.string xe) (.bool xs) (.slice xA xl.length xc) (.string q.pr.1) (.string q.pr.2) (.int .i64 yk) (.string yt) (.string yd) (.string ye) (.bool ys) (.slice yA yl.length yc) (.string q.act.1) (.string q.act.2) (.int .i64 zk) (.string zt) (.string zd) (.string ze) (.bool zs) (.slice zA zl.length zc) (.string q.res.1) (.string q.res.2) w
  go_wp2_with (first | (with_reducible refine zae ?_; refine zaa rfl 52 _ rfl wr.heap.size 0 rfl za7 zan (cs := [.int .i64 zk, .string zt, .string zd, .string ze, .bool zs, .slice zA zl.length zc]) rfl HB1.out ?_) | (with_reducible refine zae ?_; refine zaa rfl 23 _ rfl wr.heap.size 6 rfl zac zab (cs := [.string q.res.1, .string q.res.2]) rfl HB2.out ?_))
  refine HC.out.mono ?_
  rintro e1 w1 ⟨rfl, hx1⟩
  have HX1 := q_ (HXb.out.trans hx1)
  have HPa := q_ ((hx1.block _ (zaf (za0 HP.out))).trans (za0 HP.out))
  clear hx1 HC HB0 HB1 HB2 HXb
  by_cases h0 : er = 0
  ·subst h0
   cases tb with
   | false =>
    have hh : res = (false, 0) := by rw [← HRes.out]; unfold zbb; simp [HH.out.1 (by omega), HH.out.2.1 (by omega), HRr.out]
    subst hh
    go_wp2_with fail
    go_ret2
    exact ⟨rfl, HX1.out⟩
   | true =>
    go_wp2_with fail
    go_roundw
    case rel => exact ⟨3, by omega, rfl, HX1, HPa, q_ ⟨fun h => HH.out.1 (by omega), fun h => HH.out.2.1 (by omega), fun h => HRr.out⟩⟩
    case measure => simp [intOf]
  ·have t0 : (er != 0) = true := by simpa using h0
   have hh : res = (false, er) := by rw [← HRes.out]; unfold zbb; simp [HH.out.1 (by omega), HH.out.2.1 (by omega), HRr.out, h0]
   subst hh
   go_wp2_with fail
   go_ret2
   exact ⟨rfl, HX1.out⟩
 ·have hh : res = (true, 0) := by rw [← HRes.out]; unfold zbb; simp [HH.out.1 (by omega), HH.out.2.1 (by omega), HH.out.2.2 (by omega)]
  subst hh
  clear HH HRes Hx Hy Hz HSx HSy HSz HUx HUy HUz
  have c20 : wr.cell? ⟨w.heap.size, 20, none⟩ = some (.slice none 0 0) := cell_of_row _ _ 20 _ _ _ HP.out
  go_wp2_with fail
  go_loopw [55] (fun i' w2 => i' = .int .i64 0 ∧ Hid (Ext w w2)) (fun _ _ => 0)
  case atStart => exact ⟨rfl, HX⟩
  case round =>
   obtain ⟨rfl, HX2⟩ := hrel
   go_wp2_with fail
   go_ret2
   exact ⟨rfl, HX2.out⟩
end Go.Proofs.YtebfoimbdljbmaaGreatDoor
