/-
  The walk of layer 3's law ValueFinds: it answers true. The conditions: the arguments are values that lie in old memory.
-/
import Derived.Test.YtpkgkabcikmopaaLaw3a
import Derived.Test.YtpkgkabcikmopaaBox
namespace Go.Proofs.Ytpkgkabcikmopaa
open Go.RowKit

/-- is one of them the same -/
def heldOf (x : Val) (l : List Val) : Bool := l.any fun y => y.ord x == 0
theorem heldOf_succ {x y : Val} {l : List Val} {k : Nat} (h : l[k]? = some y) : heldOf x (l.take (k + 1)) = (heldOf x (l.take k) || y.ord x == 0) := by
  rw [take_succ_of h]; simp [heldOf]

theorem Val.find_some {v : Val} {s : ByteArray} {i : Nat} (h : v.find s = some i) : i < v.items.length := by
  unfold Val.find at h
  split at h
  · obtain ⟨j, _, hj⟩ := Option.bind_eq_some_iff.1 h
    split at hj
    · rename_i hlt; cases hj; exact hlt
    · cases hj
  · cases h

set_option maxRecDepth 100000 in
set_option maxHeartbeats 1600000 in
theorem valueFinds_walk (v x : Val) (name : ByteArray) (w : World) (cv cx : List Value) (hn : name.size ≤ maxLen) (hv : InW w v cv) (hx : InW w x cx) :
    Calls Try.prog 4 #[.agg cv.toArray, .agg cx.toArray, .string name] w fun e w' => e = .returned (.bool true) ∧ Ext w w' := by
  obtain ⟨k1, b1, n1, t1, ut1, ui1, A1, l1, c1, A2, l2, c2, rfl⟩ := Val.At.shape hv
  obtain ⟨k3, b3, n3, t3, ut3, ui3, A3, l3, c3, A4, l4, c4, rfl⟩ := Val.At.shape hx
  have HV := Lib.hid hv
  have HXv := Lib.hid hx
  have Hn := Lib.hid hn
  clear hv hx hn
  go_enter Try.func4, Try.ntmps4
  go_wp2_with fail
  refine (awake3_ok _).mono ?_
  rintro e w1 ⟨rfl, hx1⟩
  have B1 := Lib.hid (((BoxAt.new w 27 [.int .i64 k1, .bool b1, .int .i64 n1, .string t1, .string ut1, .string ui1, .slice A1 l1 c1, .slice A2 l2 c2]).ext ((Ext.refl _).alloc _)).ext hx1)
  have B2 := Lib.hid ((BoxAt.new (w.alloc (.cells #[.int .i64 k1, .bool b1, .int .i64 n1, .string t1, .string ut1, .string ui1, .slice A1 l1 c1, .slice A2 l2 c2] 27)) 27 [.int .i64 k3, .bool b3, .int .i64 n3, .string t3, .string ut3, .string ui3, .slice A3 l3 c3, .slice A4 l4 c4]).ext hx1)
  simp only [World.size_alloc] at B2
  have HX1 := Lib.hid ((((Ext.refl w).alloc _).alloc _).trans hx1)
  have V1 := Lib.hid (HV.out.ext HX1.out)
  have X1 := Lib.hid (HXv.out.ext HX1.out)
  clear hx1 HV HXv
  go_wp2_with (refine wpList_load_cells rfl 27 (.tmp 3) rfl w.heap.size 0 rfl Try.agg27 Try.size27 rfl B1.out.2 ?_)
  refine (few_ok03 _ v 0 _ _ [_, _, _, _, _, _, _, _] (Nat.le_refl _) (by omega) (by omega) (InW.lt _) V1.out).mono ?_
  rintro e w2 ⟨rfl, hx2⟩
  have HX2 := Lib.hid hx2
  clear hx2
  go_wp2_with (refine wpList_load_cells rfl 27 (.tmp 4) rfl (w.heap.size + 1) 0 rfl Try.agg27 Try.size27 rfl (B2.out.ext HX2.out).2 ?_)
  refine (few_ok03 _ x 0 _ _ [_, _, _, _, _, _, _, _] (Nat.le_refl _) (by omega) (by omega) (InW.lt _) (X1.out.ext HX2.out)).mono ?_
  rintro e w3 ⟨rfl, hx3⟩
  have HX3 := Lib.hid (HX2.out.trans hx3)
  clear hx3 HX2
  generalize v.few 0 = fv
  generalize x.few 0 = fx
  cases fv
  · go_wp2_with fail
    go_ret
    exact ⟨rfl, HX1.out.trans HX3.out⟩
  cases fx
  · go_wp2_with fail
    go_ret
    exact ⟨rfl, HX1.out.trans HX3.out⟩
  obtain ⟨d0, d1, d2, d3, d4, d5, d6, d7⟩ := (B1.out.ext HX3.out).cells
  go_wp2_with fail
  clear d0 d1 d2 d3 d4 d5 d6 d7
  refine (size_ok03 _ v _ _ [_, _, _, _, _, _, _, _] (Nat.le_refl _) (InW.lt _) (V1.out.ext HX3.out)).mono ?_
  rintro e w4 ⟨sz, _, rfl, hx4⟩
  have HX4 := Lib.hid (HX3.out.trans hx4)
  clear hx4 HX3
  by_cases hsz : 500 < sz
  · have t0 : decide (500 < sz) = true := by simpa using hsz
    clear hsz
    go_wp2_with fail
    go_ret
    exact ⟨rfl, HX1.out.trans HX4.out⟩
  have t0 : decide (500 < sz) = false := by simpa using hsz
  clear hsz
  obtain ⟨d0, d1, d2, d3, d4, d5, d6, d7⟩ := (B2.out.ext HX4.out).cells
  go_wp2_with fail
  clear d0 d1 d2 d3 d4 d5 d6 d7 t0
  refine (size_ok03 _ x _ _ [_, _, _, _, _, _, _, _] (Nat.le_refl _) (InW.lt _) (X1.out.ext HX4.out)).mono ?_
  rintro e w5 ⟨sx, _, rfl, hx5⟩
  have HX5 := Lib.hid (HX4.out.trans hx5)
  clear hx5 HX4
  by_cases hsz : 500 < sx
  · have t0 : decide (500 < sx) = true := by simpa using hsz
    clear hsz
    go_wp2_with fail
    go_ret
    exact ⟨rfl, HX1.out.trans HX5.out⟩
  have t0 : decide (500 < sx) = false := by simpa using hsz
  clear hsz
  -- the arguments' own forms
  cases v with
  | mk kv bo i t ut ui items names =>
  have hvo := V1.out
  have hvals := Val.At.vals hvo
  unfold InW Val.At at hvo
  obtain ⟨_, _, _, he, _⟩ := hvo
  injection he with he0 he
  simp only [List.cons.injEq] at he
  obtain ⟨_, _, _, _, _, he6, he7, _⟩ := he
  injection he0 with _ hkv
  injection he6 with q1 q2 q3
  subst hkv q2
  clear he7 q1 q3
  obtain ⟨_, _, e1, ⟨hi1, hi2, hi3⟩, hlr⟩ := hvals
  injection e1 with q1 _ q2
  subst q1 q2
  rw [LIM_eq] at hi1
  rw [maxLen_eq] at hi3
  have HL := Lib.hid hlr
  clear hlr
  go_wp2_with fail
  clear t0
  go_loopw [10, 11] (fun z u wr => ∃ k : Nat, k ≤ items.length ∧ u = .int .i64 k ∧ z = .bool (k1 == 5 && heldOf x (items.take k)) ∧ Ext w1 wr) (fun _ u _ => items.length - (intOf u).toNat)
  case atStart => exact ⟨0, Nat.zero_le _, rfl, by simp [heldOf], HX5.out⟩
  case round =>
    obtain ⟨k, hk, rfl, rfl, hext⟩ := hrel
    have HXr := Lib.hid hext
    clear hext
    obtain ⟨hb, hhb⟩ : ∃ hb, hb = (k1 == 5 && heldOf x (items.take k)) := ⟨_, rfl⟩
    rw [← hhb]
    have HHb := Lib.hid hhb
    clear hhb
    have hbx := (B1.out.ext HXr.out).cells
    have p0 := hbx.1
    have p6 := hbx.2.2.2.2.2.2.1
    clear hbx
    by_cases hlt : k < items.length
    · obtain ⟨b, o, rfl, hSb, hrow⟩ := HL.out (by omega)
      obtain ⟨y, hy⟩ : ∃ y, items[k]? = some y := ⟨_, List.getElem?_eq_getElem hlt⟩
      obtain ⟨cy, hcl, hca, hya⟩ := hrow.get hy
      have hcar := hca.alike (S := fun b => b < w1.heap.size) hSb (Alike.of_ext HXr.out fun _ h => h)
      have Hya := Lib.hid (InW.ext hya HXr.out)
      have Hy := Lib.hid hy
      obtain ⟨yk, yb, yn, yt, yut, yui, yA, yl, yc, yA2, yl2, yc2, rfl⟩ := Val.At.shape hya
      have hsx := heldOf_succ (x := x) hy
      have HSx := Lib.hid hsx
      clear hrow hca hya hy hcl hSb hsx
      go_wp2_with fail
      have q0 := cell_regrown p0
      have q6 := cell_regrown p6
      clear p0 p6
      cases hb
      · by_cases k5 : k1 = 5
        · have e5 : (k1 == 5) = true := by simpa using k5
          have HK := Lib.hid k5
          clear k5
          obtain ⟨ov, hov⟩ : ∃ ov, ov = y.ord x := ⟨_, rfl⟩
          have Hq : Hid (∀ w3, Ext wr w3 → Calls Try.prog 21 #[.agg #[.int .i64 yk, .bool yb, .int .i64 yn, .string yt, .string yut, .string yui, .slice yA yl yc, .slice yA2 yl2 yc2], .agg #[.int .i64 k3, .bool b3, .int .i64 n3, .string t3, .string ut3, .string ui3, .slice A3 l3 c3, .slice A4 l4 c4]] w3 fun e w' => e = .returned (.int .i64 ov) ∧ Ext w3 w') := Lib.hid fun w3 hw3 => by
            rw [hov]
            exact orderR_ok _ y x _ w3 [_, _, _, _, _, _, _, _] [_, _, _, _, _, _, _, _] (Nat.le_refl _) (InW.lt _) (Hya.out.ext hw3) (X1.out.ext (HXr.out.trans hw3))
          have Hov := Lib.hid hov
          clear hov
          have r0 := cell_regrown (show wr.cell? ⟨b, o + k * 8, none⟩ = _ from hcar 0 _ rfl)
          have r1 := cell_regrown (hcar 1 _ rfl)
          have r2 := cell_regrown (hcar 2 _ rfl)
          have r3 := cell_regrown (hcar 3 _ rfl)
          have r4 := cell_regrown (hcar 4 _ rfl)
          have r5 := cell_regrown (hcar 5 _ rfl)
          have r6 := cell_regrown (hcar 6 _ rfl)
          have r7 := cell_regrown (hcar 7 _ rfl)
          obtain ⟨s0, s1, s2, s3, s4, s5, s6, s7⟩ := (B2.out.ext HXr.out).cells
          have z0 := cell_regrown s0
          have z1 := cell_regrown s1
          have z2 := cell_regrown s2
          have z3 := cell_regrown s3
          have z4 := cell_regrown s4
          have z5 := cell_regrown s5
          have z6 := cell_regrown s6
          have z7 := cell_regrown s7
          clear s0 s1 s2 s3 s4 s5 s6 s7 hcar
          refine region_later (by kernel_rfl) (by kernel_rfl) ?_
          repeat (go_big_quiet_step ((go_at_call 21; exact later_call Hq.out _ _)))
          refine wpQuiet_nil ?_
          intro w3 hw3
          have HX3 := Lib.hid hw3
          clear hw3 r0 r1 r2 r3 r4 r5 r6 r7 z0 z1 z2 z3 z4 z5 z6 z7 q0 q6 Hq
          go_wp2_with fail
          go_roundw
          case rel =>
            refine ⟨k + 1, by omega, by go_num, ?_, HXr.out.trans HX3.out⟩
            have h1 := HHb.out
            rw [HSx.out, e5]
            rw [e5] at h1
            simp at h1
            simp [h1, Hov.out]
          case measure => simp [intOf]; omega
        · have e5 : (k1 == 5) = false := by simpa using k5
          clear k5 hcar
          refine region_later (by kernel_rfl) (by kernel_rfl) ?_
          repeat (go_big_quiet_step (fail))
          refine wpQuiet_nil ?_
          intro w3 hw3
          have HX3 := Lib.hid hw3
          clear hw3 q0 q6
          go_wp2_with fail
          go_roundw
          case rel => exact ⟨k + 1, by omega, by go_num, by rw [e5]; simp, HXr.out.trans HX3.out⟩
          case measure => simp [intOf]; omega
      · clear hcar
        refine region_later (by kernel_rfl) (by kernel_rfl) ?_
        repeat (go_big_quiet_step (fail))
        refine wpQuiet_nil ?_
        intro w3 hw3
        have HX3 := Lib.hid hw3
        clear hw3 q0 q6
        go_wp2_with fail
        go_roundw
        case rel =>
          refine ⟨k + 1, by omega, by go_num, ?_, HXr.out.trans HX3.out⟩
          have h1 := HHb.out
          rw [HSx.out]
          cases hk5 : (k1 == 5)
          · rw [hk5] at h1; simp at h1
          · rw [hk5] at h1; simp at h1; simp [← h1]
        case measure => simp [intOf]; omega
    · have hke : k = items.length := by omega
      subst hke
      have hhb := HHb.out
      rw [List.take_length] at hhb
      have hhold : Val.holds (.mk k1 b1 n1 t1 ut1 ui1 items names) x = hb := by rw [hhb]; rfl
      have HHold := Lib.hid hhold
      clear hhb hhold
      have hholds : ∀ W, Ext w1 W → Calls Try.prog 24 #[.agg #[.int .i64 k1, .bool b1, .int .i64 n1, .string t1, .string ut1, .string ui1, .slice A1 items.length c1, .slice A2 l2 c2], .agg #[.int .i64 k3, .bool b3, .int .i64 n3, .string t3, .string ut3, .string ui3, .slice A3 l3 c3, .slice A4 l4 c4]] W fun e w' => e = .returned (.bool hb) ∧ Ext W w' := fun W hW => by
        have := holds_ok _ x _ W _ [.int .i64 k3, .bool b3, .int .i64 n3, .string t3, .string ut3, .string ui3, .slice A3 l3 c3, .slice A4 l4 c4] (InW.lt _) (V1.out.ext hW) (X1.out.ext hW)
        rwa [HHold.out] at this
      have HHolds := Lib.hid hholds
      clear hholds
      obtain ⟨f, hf⟩ : ∃ f, f = Val.find (.mk k1 b1 n1 t1 ut1 ui1 items names) name := ⟨_, rfl⟩
      have hget : ∀ W, Ext w1 W → Calls Try.prog 22 #[.agg #[.int .i64 k1, .bool b1, .int .i64 n1, .string t1, .string ut1, .string ui1, .slice A1 items.length c1, .slice A2 l2 c2], .string name] W (ValBool (fun b => b < W.heap.size) ((f.bind fun i => items[i]?).getD .zero) f.isSome W) := fun W hW => by
        rw [hf]
        exact get_ok _ name _ W _ (InW.lt _) (V1.out.ext hW)
      have hgetR : ∀ W, Ext w1 W → Calls Try.prog 23 #[.agg #[.int .i64 k1, .bool b1, .int .i64 n1, .string t1, .string ut1, .string ui1, .slice A1 items.length c1, .slice A2 l2 c2], .string name] W fun e w' => e = .returned (.int .i64 (pos f)) ∧ Ext W w' := fun W hW => by
        rw [hf]
        exact getR_ok _ name _ W _ (InW.lt _) (V1.out.ext hW)
      have hfl : ∀ j, f = some j → j < items.length := fun j hj => by rw [hf] at hj; exact Val.find_some hj
      clear hf
      cases f
      · have HGet := Lib.hid (show ∀ W, Ext w1 W → Calls Try.prog 22 #[.agg #[.int .i64 k1, .bool b1, .int .i64 n1, .string t1, .string ut1, .string ui1, .slice A1 items.length c1, .slice A2 l2 c2], .string name] W (ValBool (fun b => b < W.heap.size) .zero false W) from hget)
        have HGetR := Lib.hid (show ∀ W, Ext w1 W → Calls Try.prog 23 #[.agg #[.int .i64 k1, .bool b1, .int .i64 n1, .string t1, .string ut1, .string ui1, .slice A1 items.length c1, .slice A2 l2 c2], .string name] W fun e w' => e = .returned (.int .i64 (-1)) ∧ Ext W w' from hgetR)
        clear hget hgetR hfl
        go_wp2_with (refine wpList_load_cells rfl 27 (.tmp 3) rfl w.heap.size 0 rfl Try.agg27 Try.size27 rfl (B1.out.ext HXr.out).2 ?_)
        clear p0 p6
        refine (HGet.out _ HXr.out).mono ?_
        rintro e w4 ⟨cs, rfl, hat, hx4⟩
        obtain ⟨yk, yb, yn, yt, yut, yui, yA, yl, yc, yA2, yl2, yc2, rfl⟩ := hat.shape
        have Hat := Lib.hid (InW.of hat fun b hb => Nat.lt_of_lt_of_le hb hx4.size)
        have HX4 := Lib.hid ((HXr.out.trans hx4).alloc (.cells #[.int .i64 yk, .bool yb, .int .i64 yn, .string yt, .string yut, .string yui, .slice yA yl yc, .slice yA2 yl2 yc2] 27))
        clear hat hx4
        go_wp2_with (refine wpList_load_cells rfl 27 (.tmp 3) rfl w.heap.size 0 rfl Try.agg27 Try.size27 rfl (B1.out.ext HX4.out).2 ?_)
        refine (HGetR.out _ HX4.out).mono ?_
        rintro e w6 ⟨rfl, hx6⟩
        have B12 := Lib.hid ((BoxAt.new w4 27 [.int .i64 yk, .bool yb, .int .i64 yn, .string yt, .string yut, .string yui, .slice yA yl yc, .slice yA2 yl2 yc2]).ext hx6)
        have Hat6 := Lib.hid (Hat.out.ext (((Ext.refl w4).alloc _).trans hx6))
        have HX6 := Lib.hid (HX4.out.trans hx6)
        clear hx6
        go_wp2_with (first | refine wpList_load_cells rfl 27 (.tmp 3) rfl w.heap.size 0 rfl Try.agg27 Try.size27 rfl (B1.out.ext HX6.out).2 ?_ | refine wpList_load_cells rfl 27 (.tmp 4) rfl (w.heap.size + 1) 0 rfl Try.agg27 Try.size27 rfl (B2.out.ext HX6.out).2 ?_)
        refine (HHolds.out _ HX6.out).mono ?_
        rintro e w7 ⟨rfl, hx7⟩
        have HX7 := Lib.hid hx7
        clear hx7
        cases hb
        all_goals
          go_wp2_with (refine wpList_load_cells rfl 27 (.tmp 12) rfl w4.heap.size 0 rfl Try.agg27 Try.size27 rfl (B12.out.ext HX7.out).2 ?_)
          refine (whole_ok _ Val.zero Val.zero _ _ [_, _, _, _, _, _, _, _] zeroCells (Nat.le_refl _) (InW.lt _) (Hat6.out.ext HX7.out) (Val.zero_at _ _)).mono ?_
          rintro e w8 ⟨rfl, hx8⟩
          rw [eqB_same]
          have HX8 := Lib.hid hx8
          clear hx8
          go_wp2_with fail
          go_ret
          exact ⟨rfl, HX1.out.trans ((HX6.out.trans HX7.out).trans HX8.out)⟩
      · rename_i j
        have hj := hfl j rfl
        obtain ⟨y, hy⟩ : ∃ y, items[j]? = some y := ⟨_, List.getElem?_eq_getElem hj⟩
        have HGet := Lib.hid (show ∀ W, Ext w1 W → Calls Try.prog 22 #[.agg #[.int .i64 k1, .bool b1, .int .i64 n1, .string t1, .string ut1, .string ui1, .slice A1 items.length c1, .slice A2 l2 c2], .string name] W (ValBool (fun b => b < W.heap.size) y true W) from fun W hW => by
          have := hget W hW
          rwa [show ((some j).bind fun i => items[i]?).getD Val.zero = y by simp [hy]] at this)
        have HGetR := Lib.hid (show ∀ W, Ext w1 W → Calls Try.prog 23 #[.agg #[.int .i64 k1, .bool b1, .int .i64 n1, .string t1, .string ut1, .string ui1, .slice A1 items.length c1, .slice A2 l2 c2], .string name] W fun e w' => e = .returned (.int .i64 j) ∧ Ext W w' from hgetR)
        obtain ⟨b, o, rfl, hSb, hrow⟩ := HL.out (by omega)
        obtain ⟨cy, hcl, hca, hya⟩ := hrow.get hy
        have Hya := Lib.hid (show InW w1 y cy from hya)
        have Hca : Hid (∀ W, Ext w1 W → CellsAt W b (o + j * 8) cy) := Lib.hid fun W hW => hca.alike (S := fun b => b < w1.heap.size) hSb (Alike.of_ext hW fun _ h => h)
        obtain ⟨zk, zb, zn, zt, zut, zui, zA, zl, zc, zA2, zl2, zc2, rfl⟩ := hya.shape
        clear hget hgetR hfl hy hrow hca hya hcl hSb
        go_wp2_with (refine wpList_load_cells rfl 27 (.tmp 3) rfl w.heap.size 0 rfl Try.agg27 Try.size27 rfl (B1.out.ext HXr.out).2 ?_)
        clear p0 p6
        refine (HGet.out _ HXr.out).mono ?_
        rintro e w4 ⟨cs, rfl, hat, hx4⟩
        obtain ⟨yk, yb, yn, yt, yut, yui, yA, yl, yc, yA2, yl2, yc2, rfl⟩ := hat.shape
        have Hat := Lib.hid (InW.of hat fun b hb => Nat.lt_of_lt_of_le hb hx4.size)
        have HX4 := Lib.hid ((HXr.out.trans hx4).alloc (.cells #[.int .i64 yk, .bool yb, .int .i64 yn, .string yt, .string yut, .string yui, .slice yA yl yc, .slice yA2 yl2 yc2] 27))
        clear hat hx4
        go_wp2_with (refine wpList_load_cells rfl 27 (.tmp 3) rfl w.heap.size 0 rfl Try.agg27 Try.size27 rfl (B1.out.ext HX4.out).2 ?_)
        refine (HGetR.out _ HX4.out).mono ?_
        rintro e w6 ⟨rfl, hx6⟩
        have B12 := Lib.hid ((BoxAt.new w4 27 [.int .i64 yk, .bool yb, .int .i64 yn, .string yt, .string yut, .string yui, .slice yA yl yc, .slice yA2 yl2 yc2]).ext hx6)
        have Hat6 := Lib.hid (Hat.out.ext (((Ext.refl w4).alloc _).trans hx6))
        have HX6 := Lib.hid (HX4.out.trans hx6)
        clear hx6
        go_wp2_with (first | refine wpList_load_cells rfl 27 (.tmp 3) rfl w.heap.size 0 rfl Try.agg27 Try.size27 rfl (B1.out.ext HX6.out).2 ?_ | refine wpList_load_cells rfl 27 (.tmp 4) rfl (w.heap.size + 1) 0 rfl Try.agg27 Try.size27 rfl (B2.out.ext HX6.out).2 ?_)
        refine (HHolds.out _ HX6.out).mono ?_
        rintro e w7 ⟨rfl, hx7⟩
        have HX7 := Lib.hid hx7
        have HX7' := Lib.hid (HX6.out.trans hx7)
        clear hx7
        have u0 : decide ((j : Int) < 0) = false := by simp
        have u1 : decide ((0 : Int) ≤ j) = true := by simp
        cases hb
        all_goals
          go_wp2_with fail
          clear u0 u1
          obtain ⟨s0, s1, s2, s3, s4, s5, s6, s7⟩ := (B12.out.ext HX7.out).cells
          have y0 := cell_regrown s0
          have y1 := cell_regrown s1
          have y2 := cell_regrown s2
          have y3 := cell_regrown s3
          have y4 := cell_regrown s4
          have y5 := cell_regrown s5
          have y6 := cell_regrown s6
          have y7 := cell_regrown s7
          have hci := Hca.out _ HX7'.out
          have z0 := cell_regrown (show w7.cell? ⟨b, o + j * 8, none⟩ = _ from hci 0 _ rfl)
          have z1 := cell_regrown (hci 1 _ rfl)
          have z2 := cell_regrown (hci 2 _ rfl)
          have z3 := cell_regrown (hci 3 _ rfl)
          have z4 := cell_regrown (hci 4 _ rfl)
          have z5 := cell_regrown (hci 5 _ rfl)
          have z6 := cell_regrown (hci 6 _ rfl)
          have z7 := cell_regrown (hci 7 _ rfl)
          have x6 := cell_regrown (B1.out.ext HX7'.out).cells.2.2.2.2.2.2.1
          have Hq : Hid (∀ w8, Ext w7 w8 → Calls Try.prog 20 #[.agg #[.int .i64 yk, .bool yb, .int .i64 yn, .string yt, .string yut, .string yui, .slice yA yl yc, .slice yA2 yl2 yc2], .agg #[.int .i64 zk, .bool zb, .int .i64 zn, .string zt, .string zut, .string zui, .slice zA zl zc, .slice zA2 zl2 zc2]] w8 fun e w' => e = .returned (.bool true) ∧ Ext w8 w') := Lib.hid fun w8 hw8 => by
            have := whole_ok _ y y _ w8 [.int .i64 yk, .bool yb, .int .i64 yn, .string yt, .string yut, .string yui, .slice yA yl yc, .slice yA2 yl2 yc2] [.int .i64 zk, .bool zb, .int .i64 zn, .string zt, .string zut, .string zui, .slice zA zl zc, .slice zA2 zl2 zc2] (Nat.le_refl _) (InW.lt _) (Hat6.out.ext (HX7.out.trans hw8)) (Hya.out.ext (HX7'.out.trans hw8))
            rwa [eqB_same] at this
          clear s0 s1 s2 s3 s4 s5 s6 s7 hci
          refine region_later (by kernel_rfl) (by kernel_rfl) ?_
          repeat (quiet_step ((go_at_call 20; exact later_call Hq.out _ _)))
          refine wpQuiet_nil ?_
          intro w9 hw9
          have HX9 := Lib.hid hw9
          clear hw9 y0 y1 y2 y3 y4 y5 y6 y7 z0 z1 z2 z3 z4 z5 z6 z7 x6 Hq
          go_wp2_with fail
          go_ret
          exact ⟨rfl, HX1.out.trans (HX7'.out.trans HX9.out)⟩
end Go.Proofs.Ytpkgkabcikmopaa
