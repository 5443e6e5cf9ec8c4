/-
  In, and what is asked of sets, as the program's evaluation has it. The conditions: what is handed in lies in memory as it should.
-/
import Derived.Test.YtebfoimbdljbmaaGreatDoorEvAQ
namespace Go.Proofs.YtebfoimbdljbmaaGreatDoor
open Go.RowKit
theorem setRow_last (w : World) (c c' : Array Value) (t : TypeId) : (w.alloc (.cells c t)).setRow w.heap.size c' = w.alloc (.cells c' t) := by
  simp only [World.setRow, World.alloc]
  congr 1
  apply Array.ext_getElem?
  intro i
  rw [Array.getElem?_modify]
  by_cases h : w.heap.size = i
  · subst h
    simp
  · have h' : ¬ i = w.heap.size := fun e => h e.symm
    simp [h, h', Array.getElem?_push]
/-- a function stored into the box that was made last -/
theorem wpList_store_fn {P : Program} {ops : Array Oper} {rest : List Oper} {op : Oper} {a : Act} {w : World} {Q : Exit → Act → World → Prop} (hgd : op.guard = none) (ty : TypeId) (x y : Operand) (ho : op.op = .store ty x y)
    (g : Nat) (hx : a.eval x = .pointer (some ⟨g, 0, none⟩)) (f : Fn) (p1 p2 : Array Value) (hy : a.eval y = .func f p1 p2) (hz : ∀ w, (Go.sizeOf ty).run P w = .ok 1 w)
    (T : TypeId) (c0 : Value) (W0 : World) (hW : w = W0.alloc (.cells #[c0] T)) (hg : g = W0.heap.size)
    (hk : wpList P ops Q rest (a.put op.dst undef) (W0.alloc (.cells #[.func f p1 p2] T))) : wpList P ops Q (op :: rest) a w :=
  wpList_plain hgd fun K hK => by
    subst hW hg
    have hst := run_storeCells_at (P := P) W0.heap.size 0 T [Value.func f p1 p2] 0 #[c0] (W0.alloc (.cells #[c0] T)) (heap_alloc_new W0 _) (by simp) (by simp [Value.oneCell'])
    simp only [Nat.add_zero] at hst
    have hst' : (storeVar ty ⟨W0.heap.size, 0, none⟩ (.func f p1 p2)).run P (W0.alloc (.cells #[c0] T)) = .ok () (W0.alloc (.cells #[.func f p1 p2] T)) := by
      rw [← setRow_last W0 #[c0] #[.func f p1 p2]]
      simpa [storeVar, hz, Value.cells] using hst
    unfold Oper.wp execOp
    simp only [ho, hx, hy, Instr.storeAt, Instr.sureAddr, Sem.run_bind, Sem.run_pure, Result.andThen_ok, hst']
    exact hK _ _ hk
theorem Tryz.sizeFn : ∀ w, (Go.sizeOf 167).run Tryz.prog w = .ok 1 w := fun _ => by kernel_rfl

theorem ValsAt.wide {S S' : Nat → Prop} {w : World} {l : List Val} {v : Value} (h : ValsAt S w l v) (k : ∀ b, S b → S' b) : ValsAt S' w l v := by
  obtain ⟨A, cap, e, h1, h2⟩ := h
  exact ⟨A, cap, e, h1, fun hn => let ⟨b, o, e, hs, hr⟩ := h2 hn; ⟨b, o, e, k b hs, Val.RowAt.mono k l b o hr⟩⟩
theorem Tryz.enterW1 : ∀ args w, (callFunc 128 args).run Tryz.prog w = .ok (.enter 128 args) w := fun _ _ => by kernel_rfl
theorem Tryz.enterW2 : ∀ args w, (callFunc 130 args).run Tryz.prog w = .ok (.enter 130 args) w := fun _ _ => by kernel_rfl
theorem Tryz.enterS1 : ∀ args w, (callFunc 131 args).run Tryz.prog w = .ok (.enter 131 args) w := fun _ _ => by kernel_rfl
theorem Tryz.enterS2 : ∀ args w, (callFunc 133 args).run Tryz.prog w = .ok (.enter 133 args) w := fun _ _ => by kernel_rfl

set_option maxRecDepth 100000 in
set_option maxHeartbeats 4000000 in
theorem within1_ok (x : Val) (S : Nat → Prop) (w : World) (cx : List Value) (hx : Val.At S w x cx) : Calls Tryz.prog 128 #[.agg cx.toArray] w fun e w' => e = .returned (.bool (x.kind != 4)) ∧ Ext w w' := by
  obtain ⟨xk, xb, xn, xs, xt, xu, xi, xm⟩ := x
  obtain ⟨xA, xc, xB, xd, rfl⟩ := hx.opened
  have HX0 := Lib.hid ((Ext.refl w).alloc (.cells #[.int .i64 xk, .bool xb, .int .i64 xn, .string xs, .string xt, .string xu, .slice xA xi.length xc, .slice xB xm.length xd] 27))
  clear hx
  show Calls Tryz.prog 128 #[.agg #[.int .i64 xk, .bool xb, .int .i64 xn, .string xs, .string xt, .string xu, .slice xA xi.length xc, .slice xB xm.length xd]] w fun e w' => e = .returned (.bool (xk != 4)) ∧ Ext w w'
  go_enter Tryz.func128, Tryz.ntmps128
  go_wp2_with fail
  go_ret
  exact ⟨rfl, HX0.out⟩
set_option maxRecDepth 100000 in
set_option maxHeartbeats 4000000 in
theorem within2_ok {q : Req} {c : List Ent} (a x : Val) (S : Nat → Prop) (w : World) (ca cx : List Value) (g rb ab : Nat) (hx : Val.At S w x cx) (ha : ∃ T, Val.At T w a ca) (hr : Rk q c w g) (hrb : w.heap[rb]? = some (.cells #[.pointer (some ⟨g, 0, none⟩)] 78 (0, 0))) (hab : w.heap[ab]? = some (.cells ca.toArray 27 (0, 0))) :
    Calls Tryz.prog 130 (#[.agg cx.toArray] ++ #[.pointer (some ⟨rb, 0, none⟩), .pointer (some ⟨ab, 0, none⟩)]) w fun e w' => e = .returned (.bool (inB c a.uid x.uid)) ∧ Ext w w' := by
  obtain ⟨qc, pv, hql, hg, hq, hst, hqd, hsm⟩ := id hr
  have hg14 : w.cell? ⟨g, 14, none⟩ = some pv := by
    match qc, hql with
    | [q0, q1, q2, q3, q4, q5, q6, q7, q8, q9, qa, qb, qc', qd], _ => exact cell_of_row _ _ 14 _ _ _ hg
  have HG14 := Lib.hid hg14
  have HSt := Lib.hid hst
  clear hql hg hq hst hqd hsm hg14
  obtain ⟨T, ha⟩ := ha
  obtain ⟨xk, xb, xn, xs, xt, xu, xi, xm⟩ := x
  obtain ⟨xA, xc, xB, xd, rfl⟩ := hx.opened
  obtain ⟨ak, abo, an, as', at', au, ai, am⟩ := a
  obtain ⟨aA, ac, aB, ad, rfl⟩ := ha.opened
  have HX0 := Lib.hid ((Ext.refl w).alloc (.cells #[.int .i64 xk, .bool xb, .int .i64 xn, .string xs, .string xt, .string xu, .slice xA xi.length xc, .slice xB xm.length xd] 27))
  have hxb := heap_alloc_new w (.cells #[.int .i64 xk, .bool xb, .int .i64 xn, .string xs, .string xt, .string xu, .slice xA xi.length xc, .slice xB xm.length xd] 27)
  have q0 := cell_regrown (HX0.out.cell (cell_of_row _ _ 0 _ _ _ hrb))
  have q14 := cell_regrown (HX0.out.cell HG14.out)
  have a4 := cell_regrown (HX0.out.cell (cell_of_row _ _ 4 _ _ _ hab))
  have a5 := cell_regrown (HX0.out.cell (cell_of_row _ _ 5 _ _ _ hab))
  have x4 := cell_regrown (cell_of_row _ _ 4 _ _ _ hxb)
  have x5 := cell_regrown (cell_of_row _ _ 5 _ _ _ hxb)
  have fa : FitU (at', au) := ⟨ha.bounds.2.2.2.1, ha.bounds.2.2.2.2⟩
  have fx : FitU (xt, xu) := ⟨hx.bounds.2.2.2.1, hx.bounds.2.2.2.2⟩
  have KI : Hid (∀ X, Ext (w.alloc (.cells #[.int .i64 xk, .bool xb, .int .i64 xn, .string xs, .string xt, .string xu, .slice xA xi.length xc, .slice xB xm.length xd] 27)) X → Calls Tryz.prog 44 #[pv, .agg #[.string at', .string au], .agg #[.string xt, .string xu]] X fun e w' => e = .returned (.bool (inB c (at', au) (xt, xu))) ∧ Ext X w') := Lib.hid fun X hX => inV_ok pv c (at', au) (xt, xu) X fa fx (HSt.out.ext (HX0.out.trans hX))
  clear hx ha hr hrb hab hxb fa fx HG14 HSt
  show Calls Tryz.prog 130 #[.agg #[.int .i64 xk, .bool xb, .int .i64 xn, .string xs, .string xt, .string xu, .slice xA xi.length xc, .slice xB xm.length xd], .pointer (some ⟨rb, 0, none⟩), .pointer (some ⟨ab, 0, none⟩)] w fun e w' => e = .returned (.bool (inB c (at', au) (xt, xu))) ∧ Ext w w'
  generalize inB c (at', au) (xt, xu) = res at *
  go_enter Tryz.func130, Tryz.ntmps130
  go_wp2_with fail
  refine region_later (by kernel_rfl) (by kernel_rfl) ?_
  iterate 8 (go_big_quiet_step (fail))
  go_big_quiet_step ((go_at_call 44; exact later_call KI.out _ _))
  iterate 1 (go_big_quiet_step (fail))
  refine wpQuiet_nil ?_
  intro w5 hw5
  have HX5 := Lib.hid (HX0.out.trans hw5)
  clear hw5 q0 q14 a4 a5 x4 x5 KI
  go_wp2_with fail
  go_ret
  exact ⟨rfl, HX5.out⟩

set_option maxRecDepth 100000 in
set_option maxHeartbeats 4000000 in
theorem withinE_ok {q : Req} {c : List Ent} (S : Nat → Prop) (a b : Val) (g : Nat) (w : World) (ca cb : List Value) (hS : ∀ b, S b → b < w.heap.size) (hr : Rk q c w g) (ha : Val.At S w a ca) (hb : Val.At S w b cb) :
    Calls Tryz.prog 94 #[.pointer (some ⟨g, 0, none⟩), .agg ca.toArray, .agg cb.toArray] w (ValErrIn S (withinV c a b).1 (withinV c a b).2 w) := by
  obtain ⟨ak, ab, an, as', at', au, ai, am⟩ := a
  obtain ⟨aA, ac, aB, ad, rfl⟩ := ha.opened
  obtain ⟨bk, bb, bn, bs, bt, bu, bi, bm⟩ := b
  obtain ⟨bA, bc, bB, bd, rfl⟩ := hb.opened
  have HS := Lib.hid hS
  have HVa := Lib.hid ha
  have HRk := Lib.hid hr
  obtain ⟨res, hres⟩ : ∃ res, withinV c (Val.mk ak ab an as' at' au ai am) (Val.mk bk bb bn bs bt bu bi bm) = res := ⟨_, rfl⟩
  rw [hres]
  clear hS hr ha
  by_cases h5 : bk = 5
  · subst h5
    have HD : Hid (res = if ak ≠ 4 ∨ (bi.any fun x => x.kind != 4) = true then no 30 else yes (bi.any fun x => inB c (Val.mk ak ab an as' at' au ai am).uid x.uid)) := Lib.hid (by rw [← hres]; simp [withinV, Val.kind, Val.items])
    have hvb := hb
    clear hres hb
    by_cases h4 : ak = 4
    · subst h4
      have HD : Hid (res = if (4 : Int) ≠ 4 ∨ (bi.any fun x => x.kind != 4) = true then no 30 else yes (bi.any fun x => inB c (Val.mk 4 ab an as' at' au ai am).uid x.uid)) := HD
      obtain ⟨p0, p1, p2, p3, ps, px⟩ := heapA4 w (.cells #[.pointer (some ⟨g, 0, none⟩)] 78) (.cells #[.int .i64 4, .bool ab, .int .i64 an, .string as', .string at', .string au, .slice aA ai.length ac, .slice aB am.length ad] 27) (.cells #[.int .i64 5, .bool bb, .int .i64 bn, .string bs, .string bt, .string bu, .slice bA bi.length bc, .slice bB bm.length bd] 27) (.cells zeroCells.toArray 27)
      have HP0 := Lib.hid p0
      have HA0 := Lib.hid p1
      have HB0 := Lib.hid p2
      have HR0 := Lib.hid p3
      have HX0 := Lib.hid px
      clear p0 p1 p2 p3 ps px
      have HRN := Lib.hid ((heap_alloc_old ((((w.alloc (.cells #[.pointer (some ⟨g, 0, none⟩)] 78)).alloc (.cells #[.int .i64 4, .bool ab, .int .i64 an, .string as', .string at', .string au, .slice aA ai.length ac, .slice aB am.length ad] 27)).alloc (.cells #[.int .i64 5, .bool bb, .int .i64 bn, .string bs, .string bt, .string bu, .slice bA bi.length bc, .slice bB bm.length bd] 27)).alloc (.cells zeroCells.toArray 27)) (.cells #[.int .i64 5, .bool bb, .int .i64 bn, .string bs, .string bt, .string bu, .slice bA bi.length bc, .slice bB bm.length bd] 27) (Blk_lt HR0.out)).trans HR0.out)
      have HPN := Lib.hid ((heap_alloc_old ((((w.alloc (.cells #[.pointer (some ⟨g, 0, none⟩)] 78)).alloc (.cells #[.int .i64 4, .bool ab, .int .i64 an, .string as', .string at', .string au, .slice aA ai.length ac, .slice aB am.length ad] 27)).alloc (.cells #[.int .i64 5, .bool bb, .int .i64 bn, .string bs, .string bt, .string bu, .slice bA bi.length bc, .slice bB bm.length bd] 27)).alloc (.cells zeroCells.toArray 27)) (.cells #[.int .i64 5, .bool bb, .int .i64 bn, .string bs, .string bt, .string bu, .slice bA bi.length bc, .slice bB bm.length bd] 27) (Blk_lt HP0.out)).trans HP0.out)
      have HAN := Lib.hid ((heap_alloc_old ((((w.alloc (.cells #[.pointer (some ⟨g, 0, none⟩)] 78)).alloc (.cells #[.int .i64 4, .bool ab, .int .i64 an, .string as', .string at', .string au, .slice aA ai.length ac, .slice aB am.length ad] 27)).alloc (.cells #[.int .i64 5, .bool bb, .int .i64 bn, .string bs, .string bt, .string bu, .slice bA bi.length bc, .slice bB bm.length bd] 27)).alloc (.cells zeroCells.toArray 27)) (.cells #[.int .i64 5, .bool bb, .int .i64 bn, .string bs, .string bt, .string bu, .slice bA bi.length bc, .slice bB bm.length bd] 27) (Blk_lt HA0.out)).trans HA0.out)
      have HXN := Lib.hid (HX0.out.alloc (.cells #[.int .i64 5, .bool bb, .int .i64 bn, .string bs, .string bt, .string bu, .slice bA bi.length bc, .slice bB bm.length bd] 27))
      have HLs : Hid (ValsAt (fun b => b < (((((w.alloc (.cells #[.pointer (some ⟨g, 0, none⟩)] 78)).alloc (.cells #[.int .i64 4, .bool ab, .int .i64 an, .string as', .string at', .string au, .slice aA ai.length ac, .slice aB am.length ad] 27)).alloc (.cells #[.int .i64 5, .bool bb, .int .i64 bn, .string bs, .string bt, .string bu, .slice bA bi.length bc, .slice bB bm.length bd] 27)).alloc (.cells zeroCells.toArray 27)).alloc (.cells #[.int .i64 5, .bool bb, .int .i64 bn, .string bs, .string bt, .string bu, .slice bA bi.length bc, .slice bB bm.length bd] 27)).heap.size) (((((w.alloc (.cells #[.pointer (some ⟨g, 0, none⟩)] 78)).alloc (.cells #[.int .i64 4, .bool ab, .int .i64 an, .string as', .string at', .string au, .slice aA ai.length ac, .slice aB am.length ad] 27)).alloc (.cells #[.int .i64 5, .bool bb, .int .i64 bn, .string bs, .string bt, .string bu, .slice bA bi.length bc, .slice bB bm.length bd] 27)).alloc (.cells zeroCells.toArray 27)).alloc (.cells #[.int .i64 5, .bool bb, .int .i64 bn, .string bs, .string bt, .string bu, .slice bA bi.length bc, .slice bB bm.length bd] 27)) bi (.slice bA bi.length bc)) := Lib.hid (ValsAt.wide (hvb.vals.alike (Alike.of_ext HXN.out HS.out)) fun b hb => Nat.lt_of_lt_of_le (HS.out b hb) HXN.out.size)
      obtain ⟨wrong, hwr⟩ : ∃ b, (bi.any fun x => x.kind != 4) = b := ⟨_, rfl⟩
      have hc1 := containsFunc_okV 128 #[] (fun x => x.kind != 4) (fun b => b < (((((w.alloc (.cells #[.pointer (some ⟨g, 0, none⟩)] 78)).alloc (.cells #[.int .i64 4, .bool ab, .int .i64 an, .string as', .string at', .string au, .slice aA ai.length ac, .slice aB am.length ad] 27)).alloc (.cells #[.int .i64 5, .bool bb, .int .i64 bn, .string bs, .string bt, .string bu, .slice bA bi.length bc, .slice bB bm.length bd] 27)).alloc (.cells zeroCells.toArray 27)).alloc (.cells #[.int .i64 5, .bool bb, .int .i64 bn, .string bs, .string bt, .string bu, .slice bA bi.length bc, .slice bB bm.length bd] 27)).heap.size) bi _ (((((w.alloc (.cells #[.pointer (some ⟨g, 0, none⟩)] 78)).alloc (.cells #[.int .i64 4, .bool ab, .int .i64 an, .string as', .string at', .string au, .slice aA ai.length ac, .slice aB am.length ad] 27)).alloc (.cells #[.int .i64 5, .bool bb, .int .i64 bn, .string bs, .string bt, .string bu, .slice bA bi.length bc, .slice bB bm.length bd] 27)).alloc (.cells zeroCells.toArray 27)).alloc (.cells #[.int .i64 5, .bool bb, .int .i64 bn, .string bs, .string bt, .string bu, .slice bA bi.length bc, .slice bB bm.length bd] 27)) Tryz.enterW1 (fun _ h => h) HLs.out (fun x _ w1 cx _ hxa => within1_ok x _ w1 cx hxa)
      rw [hwr] at hc1
      have HC1 := Lib.hid hc1
      have Hwr := Lib.hid hwr
      clear hc1 hwr hvb
      go_enter Tryz.func94, Tryz.ntmps94
      go_wp2_with (first | refine wpList_load_cells rfl 27 _ rfl (w.heap.size + 2) 0 rfl Tryz.agg27 Tryz.size27 (cs := [.int .i64 5, .bool bb, .int .i64 bn, .string bs, .string bt, .string bu, .slice bA bi.length bc, .slice bB bm.length bd]) rfl (cells_of_row HB0.out) ?_)
      refine HC1.out.mono ?_
      rintro e5 w5 ⟨rfl, hx5⟩
      have HX5 := Lib.hid (HXN.out.trans hx5)
      have HN5 := Lib.hid hx5
      have HR5 := Lib.hid ((hx5.block _ (Blk_lt HRN.out)).trans HRN.out)
      have HP5 := Lib.hid ((hx5.block _ (Blk_lt HPN.out)).trans HPN.out)
      have HA5 := Lib.hid ((hx5.block _ (Blk_lt HAN.out)).trans HAN.out)
      clear hx5 HC1
      cases wrong with
      | true =>
        have hh : res = (.zero, 30) := by rw [HD.out, if_pos (.inr Hwr.out)]; rfl
        subst hh
        go_wp2_with (refine wpList_store_cells rfl 27 _ _ rfl (w.heap.size + 3) 0 rfl zeroCells rfl Tryz.size27 rfl 27 zeroCells.toArray HR5.out (by simp [zeroCells]) zero_one ?_)
        exact bodyPost_ret (v := .tuple #[.agg (show List Value from zeroCells).toArray, .int .i64 30]) (results_cell Tryz.results94 rfl Tryz.agg27 Tryz.size27 rfl (cellsAt_setRow HR5.out (by simp [zeroCells]))) rfl ⟨zeroCells, rfl, Val.zero_at _ _, HX5.out.setRow (by omega) _⟩
      | false =>
        obtain ⟨yy, hyy⟩ : ∃ b, (bi.any fun x => inB c (Val.mk 4 ab an as' at' au ai am).uid x.uid) = b := ⟨_, rfl⟩
        have hc2 := containsFunc_okV 130 #[.pointer (some ⟨w.heap.size, 0, none⟩), .pointer (some ⟨w.heap.size + 1, 0, none⟩)] (fun x => inB c (Val.mk 4 ab an as' at' au ai am).uid x.uid) (fun b => b < w5.heap.size) bi _ w5 Tryz.enterW2 (fun _ h => h) (ValsAt.wide (HLs.out.alike (Alike.of_ext HN5.out fun _ h => h)) fun b hb => Nat.lt_of_lt_of_le hb HN5.out.size)
          (fun x _ w1 cx hw1 hxa => within2_ok (Val.mk 4 ab an as' at' au ai am) x _ w1 [.int .i64 4, .bool ab, .int .i64 an, .string as', .string at', .string au, .slice aA ai.length ac, .slice aB am.length ad] cx g w.heap.size (w.heap.size + 1) hxa ⟨_, Val.At.alike (Alike.of_ext (HX5.out.trans hw1) HS.out) _ _ HVa.out⟩ (HRk.out.ext (HX5.out.trans hw1)) ((hw1.block _ (Blk_lt HP5.out)).trans HP5.out) ((hw1.block _ (Blk_lt HA5.out)).trans HA5.out))
        rw [hyy] at hc2
        have HC2 := Lib.hid hc2
        have hh : res = yes yy := by rw [HD.out, if_neg (by rw [Hwr.out]; simp), hyy]
        subst hh
        clear hc2 hyy HD Hwr
        go_wp2_with fail
        refine HC2.out.mono ?_
        rintro e6 w6 ⟨rfl, hx6⟩
        have HX6 := Lib.hid (HX5.out.trans hx6)
        have HR6 := Lib.hid ((hx6.block _ (Blk_lt HR5.out)).trans HR5.out)
        clear hx6
        go_wp2_with fail
        refine (truthE_ok yy _).mono ?_
        rintro et wt ⟨rfl, hxt⟩
        have HXt := Lib.hid hxt
        have HRt := Lib.hid ((hxt.block _ (Blk_lt HR6.out)).trans HR6.out)
        clear hxt
        go_wp2_with (refine wpList_store_cells rfl 27 _ _ rfl (w.heap.size + 3) 0 rfl (truthC (yy)) rfl Tryz.size27 rfl 27 zeroCells.toArray HRt.out (by simp [zeroCells, truthC]) (truth_one (yy)) ?_)
        exact bodyPost_ret (v := .tuple #[.agg (show List Value from (truthC (yy))).toArray, .int .i64 0]) (results_cell Tryz.results94 rfl Tryz.agg27 Tryz.size27 rfl (cellsAt_setRow HRt.out (by simp [zeroCells, truthC]))) rfl ⟨(truthC (yy)), rfl, truth_at _ _ _, (HX6.out.trans HXt.out).setRow (by omega) _⟩
    · have e4 : (ak != 4) = true := by simpa using h4
      obtain ⟨p0, p1, p2, p3, ps, px⟩ := heapA4 w (.cells #[.pointer (some ⟨g, 0, none⟩)] 78) (.cells #[.int .i64 ak, .bool ab, .int .i64 an, .string as', .string at', .string au, .slice aA ai.length ac, .slice aB am.length ad] 27) (.cells #[.int .i64 5, .bool bb, .int .i64 bn, .string bs, .string bt, .string bu, .slice bA bi.length bc, .slice bB bm.length bd] 27) (.cells zeroCells.toArray 27)
      have HP0 := Lib.hid p0
      have HA0 := Lib.hid p1
      have HB0 := Lib.hid p2
      have HR0 := Lib.hid p3
      have HX0 := Lib.hid px
      clear p0 p1 p2 p3 ps px
      have HRN := Lib.hid ((heap_alloc_old ((((w.alloc (.cells #[.pointer (some ⟨g, 0, none⟩)] 78)).alloc (.cells #[.int .i64 ak, .bool ab, .int .i64 an, .string as', .string at', .string au, .slice aA ai.length ac, .slice aB am.length ad] 27)).alloc (.cells #[.int .i64 5, .bool bb, .int .i64 bn, .string bs, .string bt, .string bu, .slice bA bi.length bc, .slice bB bm.length bd] 27)).alloc (.cells zeroCells.toArray 27)) (.cells #[.int .i64 5, .bool bb, .int .i64 bn, .string bs, .string bt, .string bu, .slice bA bi.length bc, .slice bB bm.length bd] 27) (Blk_lt HR0.out)).trans HR0.out)
      have HPN := Lib.hid ((heap_alloc_old ((((w.alloc (.cells #[.pointer (some ⟨g, 0, none⟩)] 78)).alloc (.cells #[.int .i64 ak, .bool ab, .int .i64 an, .string as', .string at', .string au, .slice aA ai.length ac, .slice aB am.length ad] 27)).alloc (.cells #[.int .i64 5, .bool bb, .int .i64 bn, .string bs, .string bt, .string bu, .slice bA bi.length bc, .slice bB bm.length bd] 27)).alloc (.cells zeroCells.toArray 27)) (.cells #[.int .i64 5, .bool bb, .int .i64 bn, .string bs, .string bt, .string bu, .slice bA bi.length bc, .slice bB bm.length bd] 27) (Blk_lt HP0.out)).trans HP0.out)
      have HAN := Lib.hid ((heap_alloc_old ((((w.alloc (.cells #[.pointer (some ⟨g, 0, none⟩)] 78)).alloc (.cells #[.int .i64 ak, .bool ab, .int .i64 an, .string as', .string at', .string au, .slice aA ai.length ac, .slice aB am.length ad] 27)).alloc (.cells #[.int .i64 5, .bool bb, .int .i64 bn, .string bs, .string bt, .string bu, .slice bA bi.length bc, .slice bB bm.length bd] 27)).alloc (.cells zeroCells.toArray 27)) (.cells #[.int .i64 5, .bool bb, .int .i64 bn, .string bs, .string bt, .string bu, .slice bA bi.length bc, .slice bB bm.length bd] 27) (Blk_lt HA0.out)).trans HA0.out)
      have HXN := Lib.hid (HX0.out.alloc (.cells #[.int .i64 5, .bool bb, .int .i64 bn, .string bs, .string bt, .string bu, .slice bA bi.length bc, .slice bB bm.length bd] 27))
      have hh : res = (.zero, 30) := by rw [HD.out, if_pos (.inl h4)]; rfl
      subst hh
      clear h4 hvb
      go_enter Tryz.func94, Tryz.ntmps94
      go_wp2_with (first | refine wpList_load_cells rfl 27 _ rfl (w.heap.size + 2) 0 rfl Tryz.agg27 Tryz.size27 (cs := [.int .i64 5, .bool bb, .int .i64 bn, .string bs, .string bt, .string bu, .slice bA bi.length bc, .slice bB bm.length bd]) rfl (cells_of_row HB0.out) ?_ | refine wpList_store_cells rfl 27 _ _ rfl (w.heap.size + 3) 0 rfl zeroCells rfl Tryz.size27 rfl 27 zeroCells.toArray HRN.out (by simp [zeroCells]) zero_one ?_)
      exact bodyPost_ret (v := .tuple #[.agg (show List Value from zeroCells).toArray, .int .i64 30]) (results_cell Tryz.results94 rfl Tryz.agg27 Tryz.size27 rfl (cellsAt_setRow HRN.out (by simp [zeroCells]))) rfl ⟨zeroCells, rfl, Val.zero_at _ _, HXN.out.setRow (by omega) _⟩
  · have e5 : (bk == 5) = false := by simpa using h5
    have HD : Hid (res = if ak ≠ 4 ∨ ([(Val.mk bk bb bn bs bt bu bi bm)].any fun x => x.kind != 4) = true then no 30 else yes ([(Val.mk bk bb bn bs bt bu bi bm)].any fun x => inB c (Val.mk ak ab an as' at' au ai am).uid x.uid)) := Lib.hid (by rw [← hres]; simp [withinV, Val.kind, h5])
    have hvb := hb
    clear hres hb h5
    by_cases h4 : ak = 4
    · subst h4
      have HD : Hid (res = if (4 : Int) ≠ 4 ∨ ([(Val.mk bk bb bn bs bt bu bi bm)].any fun x => x.kind != 4) = true then no 30 else yes ([(Val.mk bk bb bn bs bt bu bi bm)].any fun x => inB c (Val.mk 4 ab an as' at' au ai am).uid x.uid)) := HD
      obtain ⟨p0, p1, p2, p3, ps, px⟩ := heapA4 w (.cells #[.pointer (some ⟨g, 0, none⟩)] 78) (.cells #[.int .i64 4, .bool ab, .int .i64 an, .string as', .string at', .string au, .slice aA ai.length ac, .slice aB am.length ad] 27) (.cells #[.int .i64 bk, .bool bb, .int .i64 bn, .string bs, .string bt, .string bu, .slice bA bi.length bc, .slice bB bm.length bd] 27) (.cells zeroCells.toArray 27)
      have HP0 := Lib.hid p0
      have HA0 := Lib.hid p1
      have HB0 := Lib.hid p2
      have HR0 := Lib.hid p3
      have HX0 := Lib.hid px
      clear p0 p1 p2 p3 ps px
      have HRN := Lib.hid ((heap_alloc_old ((((w.alloc (.cells #[.pointer (some ⟨g, 0, none⟩)] 78)).alloc (.cells #[.int .i64 4, .bool ab, .int .i64 an, .string as', .string at', .string au, .slice aA ai.length ac, .slice aB am.length ad] 27)).alloc (.cells #[.int .i64 bk, .bool bb, .int .i64 bn, .string bs, .string bt, .string bu, .slice bA bi.length bc, .slice bB bm.length bd] 27)).alloc (.cells zeroCells.toArray 27)) (.cells #[.int .i64 bk, .bool bb, .int .i64 bn, .string bs, .string bt, .string bu, .slice bA bi.length bc, .slice bB bm.length bd] 27) (Blk_lt HR0.out)).trans HR0.out)
      have HPN := Lib.hid ((heap_alloc_old ((((w.alloc (.cells #[.pointer (some ⟨g, 0, none⟩)] 78)).alloc (.cells #[.int .i64 4, .bool ab, .int .i64 an, .string as', .string at', .string au, .slice aA ai.length ac, .slice aB am.length ad] 27)).alloc (.cells #[.int .i64 bk, .bool bb, .int .i64 bn, .string bs, .string bt, .string bu, .slice bA bi.length bc, .slice bB bm.length bd] 27)).alloc (.cells zeroCells.toArray 27)) (.cells #[.int .i64 bk, .bool bb, .int .i64 bn, .string bs, .string bt, .string bu, .slice bA bi.length bc, .slice bB bm.length bd] 27) (Blk_lt HP0.out)).trans HP0.out)
      have HAN := Lib.hid ((heap_alloc_old ((((w.alloc (.cells #[.pointer (some ⟨g, 0, none⟩)] 78)).alloc (.cells #[.int .i64 4, .bool ab, .int .i64 an, .string as', .string at', .string au, .slice aA ai.length ac, .slice aB am.length ad] 27)).alloc (.cells #[.int .i64 bk, .bool bb, .int .i64 bn, .string bs, .string bt, .string bu, .slice bA bi.length bc, .slice bB bm.length bd] 27)).alloc (.cells zeroCells.toArray 27)) (.cells #[.int .i64 bk, .bool bb, .int .i64 bn, .string bs, .string bt, .string bu, .slice bA bi.length bc, .slice bB bm.length bd] 27) (Blk_lt HA0.out)).trans HA0.out)
      have HXN := Lib.hid (HX0.out.alloc (.cells #[.int .i64 bk, .bool bb, .int .i64 bn, .string bs, .string bt, .string bu, .slice bA bi.length bc, .slice bB bm.length bd] 27))
      have HLs : Hid (ValsAt (fun b => b < (((((w.alloc (.cells #[.pointer (some ⟨g, 0, none⟩)] 78)).alloc (.cells #[.int .i64 4, .bool ab, .int .i64 an, .string as', .string at', .string au, .slice aA ai.length ac, .slice aB am.length ad] 27)).alloc (.cells #[.int .i64 bk, .bool bb, .int .i64 bn, .string bs, .string bt, .string bu, .slice bA bi.length bc, .slice bB bm.length bd] 27)).alloc (.cells zeroCells.toArray 27)).alloc (.cells #[.int .i64 bk, .bool bb, .int .i64 bn, .string bs, .string bt, .string bu, .slice bA bi.length bc, .slice bB bm.length bd] 27)).heap.size) (((((w.alloc (.cells #[.pointer (some ⟨g, 0, none⟩)] 78)).alloc (.cells #[.int .i64 4, .bool ab, .int .i64 an, .string as', .string at', .string au, .slice aA ai.length ac, .slice aB am.length ad] 27)).alloc (.cells #[.int .i64 bk, .bool bb, .int .i64 bn, .string bs, .string bt, .string bu, .slice bA bi.length bc, .slice bB bm.length bd] 27)).alloc (.cells zeroCells.toArray 27)).alloc (.cells #[.int .i64 bk, .bool bb, .int .i64 bn, .string bs, .string bt, .string bu, .slice bA bi.length bc, .slice bB bm.length bd] 27)) [(Val.mk bk bb bn bs bt bu bi bm)] (.slice (some ⟨w.heap.size + 4, 0, none⟩) 1 1)) := Lib.hid ⟨_, _, rfl, ⟨by simp [LIM], by simp, by rw [maxLen_eq]; decide⟩, fun _ => ⟨w.heap.size + 4, 0, rfl, by simp, ⟨⟨_, rfl, cells_of_row (heap_alloc_at (by simp) _), (Val.At.alike (Alike.of_ext HXN.out HS.out) _ _ hvb).mono fun b hb => Nat.lt_of_lt_of_le (HS.out b hb) HXN.out.size⟩, trivial⟩⟩⟩
      obtain ⟨wrong, hwr⟩ : ∃ b, ([(Val.mk bk bb bn bs bt bu bi bm)].any fun x => x.kind != 4) = b := ⟨_, rfl⟩
      have hc1 := containsFunc_okV 128 #[] (fun x => x.kind != 4) (fun b => b < (((((w.alloc (.cells #[.pointer (some ⟨g, 0, none⟩)] 78)).alloc (.cells #[.int .i64 4, .bool ab, .int .i64 an, .string as', .string at', .string au, .slice aA ai.length ac, .slice aB am.length ad] 27)).alloc (.cells #[.int .i64 bk, .bool bb, .int .i64 bn, .string bs, .string bt, .string bu, .slice bA bi.length bc, .slice bB bm.length bd] 27)).alloc (.cells zeroCells.toArray 27)).alloc (.cells #[.int .i64 bk, .bool bb, .int .i64 bn, .string bs, .string bt, .string bu, .slice bA bi.length bc, .slice bB bm.length bd] 27)).heap.size) [(Val.mk bk bb bn bs bt bu bi bm)] _ (((((w.alloc (.cells #[.pointer (some ⟨g, 0, none⟩)] 78)).alloc (.cells #[.int .i64 4, .bool ab, .int .i64 an, .string as', .string at', .string au, .slice aA ai.length ac, .slice aB am.length ad] 27)).alloc (.cells #[.int .i64 bk, .bool bb, .int .i64 bn, .string bs, .string bt, .string bu, .slice bA bi.length bc, .slice bB bm.length bd] 27)).alloc (.cells zeroCells.toArray 27)).alloc (.cells #[.int .i64 bk, .bool bb, .int .i64 bn, .string bs, .string bt, .string bu, .slice bA bi.length bc, .slice bB bm.length bd] 27)) Tryz.enterW1 (fun _ h => h) HLs.out (fun x _ w1 cx _ hxa => within1_ok x _ w1 cx hxa)
      rw [hwr] at hc1
      have HC1 := Lib.hid hc1
      have Hwr := Lib.hid hwr
      clear hc1 hwr hvb
      go_enter Tryz.func94, Tryz.ntmps94
      go_wp2_with (first | refine wpList_load_cells rfl 27 _ rfl (w.heap.size + 2) 0 rfl Tryz.agg27 Tryz.size27 (cs := [.int .i64 bk, .bool bb, .int .i64 bn, .string bs, .string bt, .string bu, .slice bA bi.length bc, .slice bB bm.length bd]) rfl (cells_of_row HB0.out) ?_)
      refine HC1.out.mono ?_
      rintro e5 w5 ⟨rfl, hx5⟩
      have HX5 := Lib.hid (HXN.out.trans hx5)
      have HN5 := Lib.hid hx5
      have HR5 := Lib.hid ((hx5.block _ (Blk_lt HRN.out)).trans HRN.out)
      have HP5 := Lib.hid ((hx5.block _ (Blk_lt HPN.out)).trans HPN.out)
      have HA5 := Lib.hid ((hx5.block _ (Blk_lt HAN.out)).trans HAN.out)
      clear hx5 HC1
      cases wrong with
      | true =>
        have hh : res = (.zero, 30) := by rw [HD.out, if_pos (.inr Hwr.out)]; rfl
        subst hh
        go_wp2_with (refine wpList_store_cells rfl 27 _ _ rfl (w.heap.size + 3) 0 rfl zeroCells rfl Tryz.size27 rfl 27 zeroCells.toArray HR5.out (by simp [zeroCells]) zero_one ?_)
        exact bodyPost_ret (v := .tuple #[.agg (show List Value from zeroCells).toArray, .int .i64 30]) (results_cell Tryz.results94 rfl Tryz.agg27 Tryz.size27 rfl (cellsAt_setRow HR5.out (by simp [zeroCells]))) rfl ⟨zeroCells, rfl, Val.zero_at _ _, HX5.out.setRow (by omega) _⟩
      | false =>
        obtain ⟨yy, hyy⟩ : ∃ b, ([(Val.mk bk bb bn bs bt bu bi bm)].any fun x => inB c (Val.mk 4 ab an as' at' au ai am).uid x.uid) = b := ⟨_, rfl⟩
        have hc2 := containsFunc_okV 130 #[.pointer (some ⟨w.heap.size, 0, none⟩), .pointer (some ⟨w.heap.size + 1, 0, none⟩)] (fun x => inB c (Val.mk 4 ab an as' at' au ai am).uid x.uid) (fun b => b < w5.heap.size) [(Val.mk bk bb bn bs bt bu bi bm)] _ w5 Tryz.enterW2 (fun _ h => h) (ValsAt.wide (HLs.out.alike (Alike.of_ext HN5.out fun _ h => h)) fun b hb => Nat.lt_of_lt_of_le hb HN5.out.size)
          (fun x _ w1 cx hw1 hxa => within2_ok (Val.mk 4 ab an as' at' au ai am) x _ w1 [.int .i64 4, .bool ab, .int .i64 an, .string as', .string at', .string au, .slice aA ai.length ac, .slice aB am.length ad] cx g w.heap.size (w.heap.size + 1) hxa ⟨_, Val.At.alike (Alike.of_ext (HX5.out.trans hw1) HS.out) _ _ HVa.out⟩ (HRk.out.ext (HX5.out.trans hw1)) ((hw1.block _ (Blk_lt HP5.out)).trans HP5.out) ((hw1.block _ (Blk_lt HA5.out)).trans HA5.out))
        rw [hyy] at hc2
        have HC2 := Lib.hid hc2
        have hh : res = yes yy := by rw [HD.out, if_neg (by rw [Hwr.out]; simp), hyy]
        subst hh
        clear hc2 hyy HD Hwr
        go_wp2_with fail
        refine HC2.out.mono ?_
        rintro e6 w6 ⟨rfl, hx6⟩
        have HX6 := Lib.hid (HX5.out.trans hx6)
        have HR6 := Lib.hid ((hx6.block _ (Blk_lt HR5.out)).trans HR5.out)
        clear hx6
        go_wp2_with fail
        refine (truthE_ok yy _).mono ?_
        rintro et wt ⟨rfl, hxt⟩
        have HXt := Lib.hid hxt
        have HRt := Lib.hid ((hxt.block _ (Blk_lt HR6.out)).trans HR6.out)
        clear hxt
        go_wp2_with (refine wpList_store_cells rfl 27 _ _ rfl (w.heap.size + 3) 0 rfl (truthC (yy)) rfl Tryz.size27 rfl 27 zeroCells.toArray HRt.out (by simp [zeroCells, truthC]) (truth_one (yy)) ?_)
        exact bodyPost_ret (v := .tuple #[.agg (show List Value from (truthC (yy))).toArray, .int .i64 0]) (results_cell Tryz.results94 rfl Tryz.agg27 Tryz.size27 rfl (cellsAt_setRow HRt.out (by simp [zeroCells, truthC]))) rfl ⟨(truthC (yy)), rfl, truth_at _ _ _, (HX6.out.trans HXt.out).setRow (by omega) _⟩
    · have e4 : (ak != 4) = true := by simpa using h4
      obtain ⟨p0, p1, p2, p3, ps, px⟩ := heapA4 w (.cells #[.pointer (some ⟨g, 0, none⟩)] 78) (.cells #[.int .i64 ak, .bool ab, .int .i64 an, .string as', .string at', .string au, .slice aA ai.length ac, .slice aB am.length ad] 27) (.cells #[.int .i64 bk, .bool bb, .int .i64 bn, .string bs, .string bt, .string bu, .slice bA bi.length bc, .slice bB bm.length bd] 27) (.cells zeroCells.toArray 27)
      have HP0 := Lib.hid p0
      have HA0 := Lib.hid p1
      have HB0 := Lib.hid p2
      have HR0 := Lib.hid p3
      have HX0 := Lib.hid px
      clear p0 p1 p2 p3 ps px
      have HRN := Lib.hid ((heap_alloc_old ((((w.alloc (.cells #[.pointer (some ⟨g, 0, none⟩)] 78)).alloc (.cells #[.int .i64 ak, .bool ab, .int .i64 an, .string as', .string at', .string au, .slice aA ai.length ac, .slice aB am.length ad] 27)).alloc (.cells #[.int .i64 bk, .bool bb, .int .i64 bn, .string bs, .string bt, .string bu, .slice bA bi.length bc, .slice bB bm.length bd] 27)).alloc (.cells zeroCells.toArray 27)) (.cells #[.int .i64 bk, .bool bb, .int .i64 bn, .string bs, .string bt, .string bu, .slice bA bi.length bc, .slice bB bm.length bd] 27) (Blk_lt HR0.out)).trans HR0.out)
      have HPN := Lib.hid ((heap_alloc_old ((((w.alloc (.cells #[.pointer (some ⟨g, 0, none⟩)] 78)).alloc (.cells #[.int .i64 ak, .bool ab, .int .i64 an, .string as', .string at', .string au, .slice aA ai.length ac, .slice aB am.length ad] 27)).alloc (.cells #[.int .i64 bk, .bool bb, .int .i64 bn, .string bs, .string bt, .string bu, .slice bA bi.length bc, .slice bB bm.length bd] 27)).alloc (.cells zeroCells.toArray 27)) (.cells #[.int .i64 bk, .bool bb, .int .i64 bn, .string bs, .string bt, .string bu, .slice bA bi.length bc, .slice bB bm.length bd] 27) (Blk_lt HP0.out)).trans HP0.out)
      have HAN := Lib.hid ((heap_alloc_old ((((w.alloc (.cells #[.pointer (some ⟨g, 0, none⟩)] 78)).alloc (.cells #[.int .i64 ak, .bool ab, .int .i64 an, .string as', .string at', .string au, .slice aA ai.length ac, .slice aB am.length ad] 27)).alloc (.cells #[.int .i64 bk, .bool bb, .int .i64 bn, .string bs, .string bt, .string bu, .slice bA bi.length bc, .slice bB bm.length bd] 27)).alloc (.cells zeroCells.toArray 27)) (.cells #[.int .i64 bk, .bool bb, .int .i64 bn, .string bs, .string bt, .string bu, .slice bA bi.length bc, .slice bB bm.length bd] 27) (Blk_lt HA0.out)).trans HA0.out)
      have HXN := Lib.hid (HX0.out.alloc (.cells #[.int .i64 bk, .bool bb, .int .i64 bn, .string bs, .string bt, .string bu, .slice bA bi.length bc, .slice bB bm.length bd] 27))
      have hh : res = (.zero, 30) := by rw [HD.out, if_pos (.inl h4)]; rfl
      subst hh
      clear h4 hvb
      go_enter Tryz.func94, Tryz.ntmps94
      go_wp2_with (first | refine wpList_load_cells rfl 27 _ rfl (w.heap.size + 2) 0 rfl Tryz.agg27 Tryz.size27 (cs := [.int .i64 bk, .bool bb, .int .i64 bn, .string bs, .string bt, .string bu, .slice bA bi.length bc, .slice bB bm.length bd]) rfl (cells_of_row HB0.out) ?_ | refine wpList_store_cells rfl 27 _ _ rfl (w.heap.size + 3) 0 rfl zeroCells rfl Tryz.size27 rfl 27 zeroCells.toArray HRN.out (by simp [zeroCells]) zero_one ?_)
      exact bodyPost_ret (v := .tuple #[.agg (show List Value from zeroCells).toArray, .int .i64 30]) (results_cell Tryz.results94 rfl Tryz.agg27 Tryz.size27 rfl (cellsAt_setRow HRN.out (by simp [zeroCells]))) rfl ⟨zeroCells, rfl, Val.zero_at _ _, HXN.out.setRow (by omega) _⟩

set_option maxRecDepth 100000 in
set_option maxHeartbeats 4000000 in
theorem sets1_ok (a x : Val) (w : World) (ca cx : List Value) (ab : Nat) (ha : ∃ T : Nat → Prop, (∀ b, T b → b < w.heap.size) ∧ Val.At T w a ca) (hx : ∃ T : Nat → Prop, (∀ b, T b → b < w.heap.size) ∧ Val.At T w x cx) (hab : w.heap[ab]? = some (.cells ca.toArray 27 (0, 0))) :
    Calls Tryz.prog 131 (#[.agg cx.toArray] ++ #[.pointer (some ⟨ab, 0, none⟩)]) w fun e w' => e = .returned (.bool (a.holds x)) ∧ Ext w w' := by
  obtain ⟨T1, ht1, ha⟩ := ha
  obtain ⟨T2, ht2, hx⟩ := hx
  obtain ⟨ak, abo, an, as', at', au, aA, al, ac, aB, am, ad, rfl⟩ := ha.shape
  obtain ⟨xk, xbo, xn, xs, xt, xu, xA, xl, xc, xB, xm, xd, rfl⟩ := hx.shape
  have HX0 := Lib.hid ((Ext.refl w).alloc (.cells #[.int .i64 xk, .bool xbo, .int .i64 xn, .string xs, .string xt, .string xu, .slice xA xl xc, .slice xB xm xd] 27))
  have HAb := Lib.hid ((heap_alloc_old w (.cells #[.int .i64 xk, .bool xbo, .int .i64 xn, .string xs, .string xt, .string xu, .slice xA xl xc, .slice xB xm xd] 27) (Blk_lt hab)).trans hab)
  have HXb := Lib.hid (heap_alloc_new w (.cells #[.int .i64 xk, .bool xbo, .int .i64 xn, .string xs, .string xt, .string xu, .slice xA xl xc, .slice xB xm xd] 27))
  have hc := holds_ok a x (fun b => b < (w.alloc (.cells #[.int .i64 xk, .bool xbo, .int .i64 xn, .string xs, .string xt, .string xu, .slice xA xl xc, .slice xB xm xd] 27)).heap.size) _ [.int .i64 ak, .bool abo, .int .i64 an, .string as', .string at', .string au, .slice aA al ac, .slice aB am ad] [.int .i64 xk, .bool xbo, .int .i64 xn, .string xs, .string xt, .string xu, .slice xA xl xc, .slice xB xm xd] (fun _ h => h)
    ((Val.At.alike (Alike.of_ext HX0.out ht1) _ _ ha).mono fun b hb => Nat.lt_of_lt_of_le (ht1 b hb) HX0.out.size) ((Val.At.alike (Alike.of_ext HX0.out ht2) _ _ hx).mono fun b hb => Nat.lt_of_lt_of_le (ht2 b hb) HX0.out.size)
  obtain ⟨r, hr⟩ : ∃ r, a.holds x = r := ⟨_, rfl⟩
  rw [hr] at hc ⊢
  have HC := Lib.hid hc
  clear ht1 ht2 ha hx hab hc hr
  show Calls Tryz.prog 131 #[.agg #[.int .i64 xk, .bool xbo, .int .i64 xn, .string xs, .string xt, .string xu, .slice xA xl xc, .slice xB xm xd], .pointer (some ⟨ab, 0, none⟩)] w _
  go_enter Tryz.func131, Tryz.ntmps131
  go_wp2_with (first | refine wpList_load_cells rfl 27 _ rfl ab 0 rfl Tryz.agg27 Tryz.size27 (cs := [.int .i64 ak, .bool abo, .int .i64 an, .string as', .string at', .string au, .slice aA al ac, .slice aB am ad]) rfl (cells_of_row HAb.out) ?_ | refine wpList_load_cells rfl 27 _ rfl w.heap.size 0 rfl Tryz.agg27 Tryz.size27 (cs := [.int .i64 xk, .bool xbo, .int .i64 xn, .string xs, .string xt, .string xu, .slice xA xl xc, .slice xB xm xd]) rfl (cells_of_row HXb.out) ?_)
  refine HC.out.mono ?_
  rintro e1 w1 ⟨rfl, hx1⟩
  have HX1 := Lib.hid (HX0.out.trans hx1)
  clear hx1 HAb HXb HC
  go_wp2_with fail
  go_ret
  exact ⟨rfl, HX1.out⟩
set_option maxRecDepth 100000 in
set_option maxHeartbeats 4000000 in
theorem sets2_ok (a x : Val) (w : World) (ca cx : List Value) (ab hb : Nat) (ha : ∃ T : Nat → Prop, (∀ b, T b → b < w.heap.size) ∧ Val.At T w a ca) (hx : ∃ T : Nat → Prop, (∀ b, T b → b < w.heap.size) ∧ Val.At T w x cx) (hab : w.heap[ab]? = some (.cells ca.toArray 27 (0, 0)))
    (hhb : w.heap[hb]? = some (.cells #[.func (.func 131) #[] #[.pointer (some ⟨ab, 0, none⟩)]] 167 (0, 0))) :
    Calls Tryz.prog 133 (#[.agg cx.toArray] ++ #[.pointer (some ⟨hb, 0, none⟩)]) w fun e w' => e = .returned (.bool (!(a.holds x))) ∧ Ext w w' := by
  obtain ⟨T2, ht2, hx⟩ := hx
  obtain ⟨xk, xbo, xn, xs, xt, xu, xA, xl, xc, xB, xm, xd, rfl⟩ := hx.shape
  have HX0 := Lib.hid ((Ext.refl w).alloc (.cells #[.int .i64 xk, .bool xbo, .int .i64 xn, .string xs, .string xt, .string xu, .slice xA xl xc, .slice xB xm xd] 27))
  have hh0 : (w.alloc (.cells #[.int .i64 xk, .bool xbo, .int .i64 xn, .string xs, .string xt, .string xu, .slice xA xl xc, .slice xB xm xd] 27)).cell? ⟨hb, 0, none⟩ = some (.func (.func 131) #[] #[.pointer (some ⟨ab, 0, none⟩)]) := HX0.out.cell (cell_of_row _ _ 0 _ _ _ hhb)
  have HXb := Lib.hid (heap_alloc_new w (.cells #[.int .i64 xk, .bool xbo, .int .i64 xn, .string xs, .string xt, .string xu, .slice xA xl xc, .slice xB xm xd] 27))
  have hc := sets1_ok a x _ ca [.int .i64 xk, .bool xbo, .int .i64 xn, .string xs, .string xt, .string xu, .slice xA xl xc, .slice xB xm xd] ab
    (by obtain ⟨T1, ht1, ha⟩ := ha; exact ⟨T1, fun b hb => Nat.lt_of_lt_of_le (ht1 b hb) HX0.out.size, Val.At.alike (Alike.of_ext HX0.out ht1) _ _ ha⟩) ⟨T2, fun b hb => Nat.lt_of_lt_of_le (ht2 b hb) HX0.out.size, Val.At.alike (Alike.of_ext HX0.out ht2) _ _ hx⟩
    ((heap_alloc_old w (.cells #[.int .i64 xk, .bool xbo, .int .i64 xn, .string xs, .string xt, .string xu, .slice xA xl xc, .slice xB xm xd] 27) (Blk_lt hab)).trans hab)
  obtain ⟨r, hr⟩ : ∃ r, a.holds x = r := ⟨_, rfl⟩
  rw [hr] at hc ⊢
  have HC := Lib.hid hc
  have he := Tryz.enterS1
  clear ha ht2 hx hab hhb hc hr
  show Calls Tryz.prog 133 #[.agg #[.int .i64 xk, .bool xbo, .int .i64 xn, .string xs, .string xt, .string xu, .slice xA xl xc, .slice xB xm xd], .pointer (some ⟨hb, 0, none⟩)] w _
  go_enter Tryz.func133, Tryz.ntmps133
  go_wp2_with (first | refine wpList_load_cells rfl 27 _ rfl w.heap.size 0 rfl Tryz.agg27 Tryz.size27 (cs := [.int .i64 xk, .bool xbo, .int .i64 xn, .string xs, .string xt, .string xu, .slice xA xl xc, .slice xB xm xd]) rfl (cells_of_row HXb.out) ?_)
  refine HC.out.mono ?_
  rintro e1 w1 ⟨rfl, hx1⟩
  have HX1 := Lib.hid (HX0.out.trans hx1)
  clear hx1 HXb HC he hh0
  go_wp2_with fail
  go_ret
  exact ⟨rfl, HX1.out⟩

set_option maxRecDepth 100000 in
set_option maxHeartbeats 4000000 in
theorem setsE_ok (S : Nat → Prop) (op : Int) (a b : Val) (w : World) (ca cb : List Value) (hS : ∀ b, S b → b < w.heap.size) (ha : Val.At S w a ca) (hb : Val.At S w b cb) :
    Calls Tryz.prog 95 #[.int .i64 op, .agg ca.toArray, .agg cb.toArray] w (ValErrIn S (setsV op a b).1 (setsV op a b).2 w) := by
  obtain ⟨ak, ab, an, as', at', au, ai, am⟩ := a
  obtain ⟨aA, ac, aB, ad, rfl⟩ := ha.opened
  obtain ⟨bk, bb, bn, bs, bt, bu, bi, bm⟩ := b
  obtain ⟨bA, bc, bB, bd, rfl⟩ := hb.opened
  have HS := Lib.hid hS
  have HVa := Lib.hid ha
  have HVb := Lib.hid hb
  obtain ⟨res, hres⟩ : ∃ res, setsV op (Val.mk ak ab an as' at' au ai am) (Val.mk bk bb bn bs bt bu bi bm) = res := ⟨_, rfl⟩
  rw [hres]
  clear hS ha hb
  by_cases ha5 : ak = 5
  case neg =>
    have ea : (ak != 5) = true := by simpa using ha5
    have hh : res = (.zero, 30) := by rw [← hres]; simp [setsV, Val.kind, ha5, no]
    clear hres ha5
    obtain ⟨p0, p1, p2, ps, px⟩ := heapA3 w (.cells #[.int .i64 ak, .bool ab, .int .i64 an, .string as', .string at', .string au, .slice aA ai.length ac, .slice aB am.length ad] 27) (.cells #[.int .i64 bk, .bool bb, .int .i64 bn, .string bs, .string bt, .string bu, .slice bA bi.length bc, .slice bB bm.length bd] 27) (.cells zeroCells.toArray 27)
    have HA0 := Lib.hid p0
    have HB0 := Lib.hid p1
    have HR0 := Lib.hid p2
    have HX0 := Lib.hid px
    clear p0 p1 p2 ps px
    subst hh
    go_enter Tryz.func95, Tryz.ntmps95
    go_wp2_with (refine wpList_store_cells rfl 27 _ _ rfl (w.heap.size + 2) 0 rfl zeroCells rfl Tryz.size27 rfl 27 zeroCells.toArray HR0.out (by simp [zeroCells]) zero_one ?_)
    exact bodyPost_ret (v := .tuple #[.agg (show List Value from zeroCells).toArray, .int .i64 30]) (results_cell Tryz.results95 rfl Tryz.agg27 Tryz.size27 rfl (cellsAt_setRow HR0.out (by simp [zeroCells]))) rfl ⟨zeroCells, rfl, Val.zero_at _ _, HX0.out.setRow (by omega) _⟩
  subst ha5
  by_cases h21 : op = 21
  · subst h21
    have hh : res = yes ((Val.mk 5 ab an as' at' au ai am).holds (Val.mk bk bb bn bs bt bu bi bm)) := by rw [← hres]; simp [setsV, Val.kind]
    clear hres
    obtain ⟨p0, p1, p2, ps, px⟩ := heapA3 w (.cells #[.int .i64 5, .bool ab, .int .i64 an, .string as', .string at', .string au, .slice aA ai.length ac, .slice aB am.length ad] 27) (.cells #[.int .i64 bk, .bool bb, .int .i64 bn, .string bs, .string bt, .string bu, .slice bA bi.length bc, .slice bB bm.length bd] 27) (.cells zeroCells.toArray 27)
    have HA0 := Lib.hid p0
    have HB0 := Lib.hid p1
    have HR0 := Lib.hid p2
    have HX0 := Lib.hid px
    clear p0 p1 p2 ps px
    have HRH := Lib.hid ((heap_alloc_old (((w.alloc (.cells #[.int .i64 5, .bool ab, .int .i64 an, .string as', .string at', .string au, .slice aA ai.length ac, .slice aB am.length ad] 27)).alloc (.cells #[.int .i64 bk, .bool bb, .int .i64 bn, .string bs, .string bt, .string bu, .slice bA bi.length bc, .slice bB bm.length bd] 27)).alloc (.cells zeroCells.toArray 27)) (.cells #[.func (.func 131) #[] #[.pointer (some ⟨w.heap.size, 0, none⟩)]] 167) (Blk_lt HR0.out)).trans HR0.out)
    have HAH := Lib.hid ((heap_alloc_old (((w.alloc (.cells #[.int .i64 5, .bool ab, .int .i64 an, .string as', .string at', .string au, .slice aA ai.length ac, .slice aB am.length ad] 27)).alloc (.cells #[.int .i64 bk, .bool bb, .int .i64 bn, .string bs, .string bt, .string bu, .slice bA bi.length bc, .slice bB bm.length bd] 27)).alloc (.cells zeroCells.toArray 27)) (.cells #[.func (.func 131) #[] #[.pointer (some ⟨w.heap.size, 0, none⟩)]] 167) (Blk_lt HA0.out)).trans HA0.out)
    have HXH := Lib.hid (HX0.out.alloc (.cells #[.func (.func 131) #[] #[.pointer (some ⟨w.heap.size, 0, none⟩)]] 167))
    have HFH := Lib.hid (show ((((w.alloc (.cells #[.int .i64 5, .bool ab, .int .i64 an, .string as', .string at', .string au, .slice aA ai.length ac, .slice aB am.length ad] 27)).alloc (.cells #[.int .i64 bk, .bool bb, .int .i64 bn, .string bs, .string bt, .string bu, .slice bA bi.length bc, .slice bB bm.length bd] 27)).alloc (.cells zeroCells.toArray 27)).alloc (.cells #[.func (.func 131) #[] #[.pointer (some ⟨w.heap.size, 0, none⟩)]] 167)).heap[w.heap.size + 3]? = some (.cells #[.func (.func 131) #[] #[.pointer (some ⟨w.heap.size, 0, none⟩)]] 167 (0, 0)) from heap_alloc_at (by simp) _)
    have HSW := Lib.hid (show ∀ b, S b → b < ((((w.alloc (.cells #[.int .i64 5, .bool ab, .int .i64 an, .string as', .string at', .string au, .slice aA ai.length ac, .slice aB am.length ad] 27)).alloc (.cells #[.int .i64 bk, .bool bb, .int .i64 bn, .string bs, .string bt, .string bu, .slice bA bi.length bc, .slice bB bm.length bd] 27)).alloc (.cells zeroCells.toArray 27)).alloc (.cells #[.func (.func 131) #[] #[.pointer (some ⟨w.heap.size, 0, none⟩)]] 167)).heap.size from fun b hb => Nat.lt_of_lt_of_le (HS.out b hb) HXH.out.size)
    have hva := Val.At.alike (Alike.of_ext HXH.out HS.out) _ _ HVa.out
    have hvb := Val.At.alike (Alike.of_ext HXH.out HS.out) _ _ HVb.out
    have hc := sets1_ok (Val.mk 5 ab an as' at' au ai am) (Val.mk bk bb bn bs bt bu bi bm) ((((w.alloc (.cells #[.int .i64 5, .bool ab, .int .i64 an, .string as', .string at', .string au, .slice aA ai.length ac, .slice aB am.length ad] 27)).alloc (.cells #[.int .i64 bk, .bool bb, .int .i64 bn, .string bs, .string bt, .string bu, .slice bA bi.length bc, .slice bB bm.length bd] 27)).alloc (.cells zeroCells.toArray 27)).alloc (.cells #[.func (.func 131) #[] #[.pointer (some ⟨w.heap.size, 0, none⟩)]] 167)) [.int .i64 5, .bool ab, .int .i64 an, .string as', .string at', .string au, .slice aA ai.length ac, .slice aB am.length ad] [.int .i64 bk, .bool bb, .int .i64 bn, .string bs, .string bt, .string bu, .slice bA bi.length bc, .slice bB bm.length bd] w.heap.size ⟨S, HSW.out, hva⟩ ⟨S, HSW.out, hvb⟩ HAH.out
    obtain ⟨r, hr⟩ : ∃ r, ((Val.mk 5 ab an as' at' au ai am)).holds (Val.mk bk bb bn bs bt bu bi bm) = r := ⟨_, rfl⟩
    rw [hr] at hc hh
    subst hh
    have HC := Lib.hid hc
    have he := Tryz.enterS1
    clear hva hvb hc hr
    go_enter Tryz.func95, Tryz.ntmps95
    go_wp2_with (first | refine wpList_load_cells rfl 27 _ rfl (w.heap.size + 1) 0 rfl Tryz.agg27 Tryz.size27 (cs := [.int .i64 bk, .bool bb, .int .i64 bn, .string bs, .string bt, .string bu, .slice bA bi.length bc, .slice bB bm.length bd]) rfl (cells_of_row HB0.out) ?_ | refine wpList_store_fn rfl 167 _ _ rfl (w.heap.size + 3) rfl _ _ _ rfl Tryz.sizeFn 167 _ (((w.alloc (.cells #[.int .i64 5, .bool ab, .int .i64 an, .string as', .string at', .string au, .slice aA ai.length ac, .slice aB am.length ad] 27)).alloc (.cells #[.int .i64 bk, .bool bb, .int .i64 bn, .string bs, .string bt, .string bu, .slice bA bi.length bc, .slice bB bm.length bd] 27)).alloc (.cells zeroCells.toArray 27)) rfl (by simp) ?_)
    refine HC.out.mono ?_
    rintro e6 w6 ⟨rfl, hx6⟩
    have HX6 := Lib.hid (HXH.out.trans hx6)
    have HR6 := Lib.hid ((hx6.block _ (Blk_lt HRH.out)).trans HRH.out)
    clear hx6
    go_wp2_with fail
    refine (truthE_ok r _).mono ?_
    rintro et wt ⟨rfl, hxt⟩
    have HXt := Lib.hid hxt
    have HRt := Lib.hid ((hxt.block _ (Blk_lt HR6.out)).trans HR6.out)
    clear hxt
    go_wp2_with (refine wpList_store_cells rfl 27 _ _ rfl (w.heap.size + 2) 0 rfl (truthC (r)) rfl Tryz.size27 rfl 27 zeroCells.toArray HRt.out (by simp [zeroCells, truthC]) (truth_one (r)) ?_)
    exact bodyPost_ret (v := .tuple #[.agg (show List Value from (truthC (r))).toArray, .int .i64 0]) (results_cell Tryz.results95 rfl Tryz.agg27 Tryz.size27 rfl (cellsAt_setRow HRt.out (by simp [zeroCells, truthC]))) rfl ⟨(truthC (r)), rfl, truth_at _ _ _, (HX6.out.trans HXt.out).setRow (by omega) _⟩
  have e21 : (op == 21) = false := by simpa using h21
  have n21 : (op != 21) = true := by simpa using h21
  by_cases hb5 : bk = 5
  case neg =>
    have eb : (bk != 5) = true := by simpa using hb5
    have hh : res = (.zero, 30) := by rw [← hres]; simp [setsV, Val.kind, hb5, h21, no]
    clear hres hb5 h21
    obtain ⟨p0, p1, p2, ps, px⟩ := heapA3 w (.cells #[.int .i64 5, .bool ab, .int .i64 an, .string as', .string at', .string au, .slice aA ai.length ac, .slice aB am.length ad] 27) (.cells #[.int .i64 bk, .bool bb, .int .i64 bn, .string bs, .string bt, .string bu, .slice bA bi.length bc, .slice bB bm.length bd] 27) (.cells zeroCells.toArray 27)
    have HA0 := Lib.hid p0
    have HB0 := Lib.hid p1
    have HR0 := Lib.hid p2
    have HX0 := Lib.hid px
    clear p0 p1 p2 ps px
    subst hh
    go_enter Tryz.func95, Tryz.ntmps95
    go_wp2_with (refine wpList_store_cells rfl 27 _ _ rfl (w.heap.size + 2) 0 rfl zeroCells rfl Tryz.size27 rfl 27 zeroCells.toArray HR0.out (by simp [zeroCells]) zero_one ?_)
    exact bodyPost_ret (v := .tuple #[.agg (show List Value from zeroCells).toArray, .int .i64 30]) (results_cell Tryz.results95 rfl Tryz.agg27 Tryz.size27 rfl (cellsAt_setRow HR0.out (by simp [zeroCells]))) rfl ⟨zeroCells, rfl, Val.zero_at _ _, HX0.out.setRow (by omega) _⟩
  subst hb5
  by_cases h23 : op = 23
  · subst h23
    have hh : res = yes (bi.any fun x => (Val.mk 5 ab an as' at' au ai am).holds x) := by rw [← hres]; simp [setsV, Val.kind, Val.items]
    clear hres h21
    obtain ⟨p0, p1, p2, ps, px⟩ := heapA3 w (.cells #[.int .i64 5, .bool ab, .int .i64 an, .string as', .string at', .string au, .slice aA ai.length ac, .slice aB am.length ad] 27) (.cells #[.int .i64 5, .bool bb, .int .i64 bn, .string bs, .string bt, .string bu, .slice bA bi.length bc, .slice bB bm.length bd] 27) (.cells zeroCells.toArray 27)
    have HA0 := Lib.hid p0
    have HB0 := Lib.hid p1
    have HR0 := Lib.hid p2
    have HX0 := Lib.hid px
    clear p0 p1 p2 ps px
    have HRH := Lib.hid ((heap_alloc_old (((w.alloc (.cells #[.int .i64 5, .bool ab, .int .i64 an, .string as', .string at', .string au, .slice aA ai.length ac, .slice aB am.length ad] 27)).alloc (.cells #[.int .i64 5, .bool bb, .int .i64 bn, .string bs, .string bt, .string bu, .slice bA bi.length bc, .slice bB bm.length bd] 27)).alloc (.cells zeroCells.toArray 27)) (.cells #[.func (.func 131) #[] #[.pointer (some ⟨w.heap.size, 0, none⟩)]] 167) (Blk_lt HR0.out)).trans HR0.out)
    have HAH := Lib.hid ((heap_alloc_old (((w.alloc (.cells #[.int .i64 5, .bool ab, .int .i64 an, .string as', .string at', .string au, .slice aA ai.length ac, .slice aB am.length ad] 27)).alloc (.cells #[.int .i64 5, .bool bb, .int .i64 bn, .string bs, .string bt, .string bu, .slice bA bi.length bc, .slice bB bm.length bd] 27)).alloc (.cells zeroCells.toArray 27)) (.cells #[.func (.func 131) #[] #[.pointer (some ⟨w.heap.size, 0, none⟩)]] 167) (Blk_lt HA0.out)).trans HA0.out)
    have HXH := Lib.hid (HX0.out.alloc (.cells #[.func (.func 131) #[] #[.pointer (some ⟨w.heap.size, 0, none⟩)]] 167))
    have HFH := Lib.hid (show ((((w.alloc (.cells #[.int .i64 5, .bool ab, .int .i64 an, .string as', .string at', .string au, .slice aA ai.length ac, .slice aB am.length ad] 27)).alloc (.cells #[.int .i64 5, .bool bb, .int .i64 bn, .string bs, .string bt, .string bu, .slice bA bi.length bc, .slice bB bm.length bd] 27)).alloc (.cells zeroCells.toArray 27)).alloc (.cells #[.func (.func 131) #[] #[.pointer (some ⟨w.heap.size, 0, none⟩)]] 167)).heap[w.heap.size + 3]? = some (.cells #[.func (.func 131) #[] #[.pointer (some ⟨w.heap.size, 0, none⟩)]] 167 (0, 0)) from heap_alloc_at (by simp) _)
    have HSW := Lib.hid (show ∀ b, S b → b < ((((w.alloc (.cells #[.int .i64 5, .bool ab, .int .i64 an, .string as', .string at', .string au, .slice aA ai.length ac, .slice aB am.length ad] 27)).alloc (.cells #[.int .i64 5, .bool bb, .int .i64 bn, .string bs, .string bt, .string bu, .slice bA bi.length bc, .slice bB bm.length bd] 27)).alloc (.cells zeroCells.toArray 27)).alloc (.cells #[.func (.func 131) #[] #[.pointer (some ⟨w.heap.size, 0, none⟩)]] 167)).heap.size from fun b hb => Nat.lt_of_lt_of_le (HS.out b hb) HXH.out.size)
    have hva := Val.At.alike (Alike.of_ext HXH.out HS.out) _ _ HVa.out
    have hvb := Val.At.alike (Alike.of_ext HXH.out HS.out) _ _ HVb.out
    have hc := containsFunc_okV 131 #[.pointer (some ⟨w.heap.size, 0, none⟩)] (fun x => ((Val.mk 5 ab an as' at' au ai am)).holds x) S bi _ ((((w.alloc (.cells #[.int .i64 5, .bool ab, .int .i64 an, .string as', .string at', .string au, .slice aA ai.length ac, .slice aB am.length ad] 27)).alloc (.cells #[.int .i64 5, .bool bb, .int .i64 bn, .string bs, .string bt, .string bu, .slice bA bi.length bc, .slice bB bm.length bd] 27)).alloc (.cells zeroCells.toArray 27)).alloc (.cells #[.func (.func 131) #[] #[.pointer (some ⟨w.heap.size, 0, none⟩)]] 167)) Tryz.enterS1 HSW.out hvb.vals (fun x _ w1 cx hw1 hxa => sets1_ok (Val.mk 5 ab an as' at' au ai am) x w1 [.int .i64 5, .bool ab, .int .i64 an, .string as', .string at', .string au, .slice aA ai.length ac, .slice aB am.length ad] cx w.heap.size ⟨S, fun b hb => Nat.lt_of_lt_of_le (HSW.out b hb) hw1.size, Val.At.alike (Alike.of_ext hw1 HSW.out) _ _ hva⟩ ⟨S, fun b hb => Nat.lt_of_lt_of_le (HSW.out b hb) hw1.size, hxa⟩ ((hw1.block _ (Blk_lt HAH.out)).trans HAH.out))
    obtain ⟨r, hr⟩ : ∃ r, (bi.any (fun x => ((Val.mk 5 ab an as' at' au ai am)).holds x)) = r := ⟨_, rfl⟩
    rw [hr] at hc hh
    subst hh
    have HC := Lib.hid hc
    clear hva hvb hc hr
    go_enter Tryz.func95, Tryz.ntmps95
    go_wp2_with (refine wpList_store_fn rfl 167 _ _ rfl (w.heap.size + 3) rfl _ _ _ rfl Tryz.sizeFn 167 _ (((w.alloc (.cells #[.int .i64 5, .bool ab, .int .i64 an, .string as', .string at', .string au, .slice aA ai.length ac, .slice aB am.length ad] 27)).alloc (.cells #[.int .i64 5, .bool bb, .int .i64 bn, .string bs, .string bt, .string bu, .slice bA bi.length bc, .slice bB bm.length bd] 27)).alloc (.cells zeroCells.toArray 27)) rfl (by simp) ?_)
    refine HC.out.mono ?_
    rintro e6 w6 ⟨rfl, hx6⟩
    have HX6 := Lib.hid (HXH.out.trans hx6)
    have HR6 := Lib.hid ((hx6.block _ (Blk_lt HRH.out)).trans HRH.out)
    clear hx6
    go_wp2_with fail
    refine (truthE_ok r _).mono ?_
    rintro et wt ⟨rfl, hxt⟩
    have HXt := Lib.hid hxt
    have HRt := Lib.hid ((hxt.block _ (Blk_lt HR6.out)).trans HR6.out)
    clear hxt
    go_wp2_with (refine wpList_store_cells rfl 27 _ _ rfl (w.heap.size + 2) 0 rfl (truthC (r)) rfl Tryz.size27 rfl 27 zeroCells.toArray HRt.out (by simp [zeroCells, truthC]) (truth_one (r)) ?_)
    exact bodyPost_ret (v := .tuple #[.agg (show List Value from (truthC (r))).toArray, .int .i64 0]) (results_cell Tryz.results95 rfl Tryz.agg27 Tryz.size27 rfl (cellsAt_setRow HRt.out (by simp [zeroCells, truthC]))) rfl ⟨(truthC (r)), rfl, truth_at _ _ _, (HX6.out.trans HXt.out).setRow (by omega) _⟩
  have e23 : (op == 23) = false := by simpa using h23
  have hh : res = yes (!(bi.any fun x => !((Val.mk 5 ab an as' at' au ai am).holds x))) := by rw [← hres]; simp only [setsV, Val.kind, Val.items, if_neg h21, if_neg h23]; rw [if_neg (by simp)]
  clear hres h21 h23
  obtain ⟨p0, p1, p2, ps, px⟩ := heapA3 w (.cells #[.int .i64 5, .bool ab, .int .i64 an, .string as', .string at', .string au, .slice aA ai.length ac, .slice aB am.length ad] 27) (.cells #[.int .i64 5, .bool bb, .int .i64 bn, .string bs, .string bt, .string bu, .slice bA bi.length bc, .slice bB bm.length bd] 27) (.cells zeroCells.toArray 27)
  have HA0 := Lib.hid p0
  have HB0 := Lib.hid p1
  have HR0 := Lib.hid p2
  have HX0 := Lib.hid px
  clear p0 p1 p2 ps px
  have HRH := Lib.hid ((heap_alloc_old (((w.alloc (.cells #[.int .i64 5, .bool ab, .int .i64 an, .string as', .string at', .string au, .slice aA ai.length ac, .slice aB am.length ad] 27)).alloc (.cells #[.int .i64 5, .bool bb, .int .i64 bn, .string bs, .string bt, .string bu, .slice bA bi.length bc, .slice bB bm.length bd] 27)).alloc (.cells zeroCells.toArray 27)) (.cells #[.func (.func 131) #[] #[.pointer (some ⟨w.heap.size, 0, none⟩)]] 167) (Blk_lt HR0.out)).trans HR0.out)
  have HAH := Lib.hid ((heap_alloc_old (((w.alloc (.cells #[.int .i64 5, .bool ab, .int .i64 an, .string as', .string at', .string au, .slice aA ai.length ac, .slice aB am.length ad] 27)).alloc (.cells #[.int .i64 5, .bool bb, .int .i64 bn, .string bs, .string bt, .string bu, .slice bA bi.length bc, .slice bB bm.length bd] 27)).alloc (.cells zeroCells.toArray 27)) (.cells #[.func (.func 131) #[] #[.pointer (some ⟨w.heap.size, 0, none⟩)]] 167) (Blk_lt HA0.out)).trans HA0.out)
  have HXH := Lib.hid (HX0.out.alloc (.cells #[.func (.func 131) #[] #[.pointer (some ⟨w.heap.size, 0, none⟩)]] 167))
  have HFH := Lib.hid (show ((((w.alloc (.cells #[.int .i64 5, .bool ab, .int .i64 an, .string as', .string at', .string au, .slice aA ai.length ac, .slice aB am.length ad] 27)).alloc (.cells #[.int .i64 5, .bool bb, .int .i64 bn, .string bs, .string bt, .string bu, .slice bA bi.length bc, .slice bB bm.length bd] 27)).alloc (.cells zeroCells.toArray 27)).alloc (.cells #[.func (.func 131) #[] #[.pointer (some ⟨w.heap.size, 0, none⟩)]] 167)).heap[w.heap.size + 3]? = some (.cells #[.func (.func 131) #[] #[.pointer (some ⟨w.heap.size, 0, none⟩)]] 167 (0, 0)) from heap_alloc_at (by simp) _)
  have HSW := Lib.hid (show ∀ b, S b → b < ((((w.alloc (.cells #[.int .i64 5, .bool ab, .int .i64 an, .string as', .string at', .string au, .slice aA ai.length ac, .slice aB am.length ad] 27)).alloc (.cells #[.int .i64 5, .bool bb, .int .i64 bn, .string bs, .string bt, .string bu, .slice bA bi.length bc, .slice bB bm.length bd] 27)).alloc (.cells zeroCells.toArray 27)).alloc (.cells #[.func (.func 131) #[] #[.pointer (some ⟨w.heap.size, 0, none⟩)]] 167)).heap.size from fun b hb => Nat.lt_of_lt_of_le (HS.out b hb) HXH.out.size)
  have hva := Val.At.alike (Alike.of_ext HXH.out HS.out) _ _ HVa.out
  have hvb := Val.At.alike (Alike.of_ext HXH.out HS.out) _ _ HVb.out
  have hc := containsFunc_okV 133 #[.pointer (some ⟨w.heap.size + 3, 0, none⟩)] (fun x => !(((Val.mk 5 ab an as' at' au ai am)).holds x)) S bi _ ((((w.alloc (.cells #[.int .i64 5, .bool ab, .int .i64 an, .string as', .string at', .string au, .slice aA ai.length ac, .slice aB am.length ad] 27)).alloc (.cells #[.int .i64 5, .bool bb, .int .i64 bn, .string bs, .string bt, .string bu, .slice bA bi.length bc, .slice bB bm.length bd] 27)).alloc (.cells zeroCells.toArray 27)).alloc (.cells #[.func (.func 131) #[] #[.pointer (some ⟨w.heap.size, 0, none⟩)]] 167)) Tryz.enterS2 HSW.out hvb.vals (fun x _ w1 cx hw1 hxa => sets2_ok (Val.mk 5 ab an as' at' au ai am) x w1 [.int .i64 5, .bool ab, .int .i64 an, .string as', .string at', .string au, .slice aA ai.length ac, .slice aB am.length ad] cx w.heap.size (w.heap.size + 3) ⟨S, fun b hb => Nat.lt_of_lt_of_le (HSW.out b hb) hw1.size, Val.At.alike (Alike.of_ext hw1 HSW.out) _ _ hva⟩ ⟨S, fun b hb => Nat.lt_of_lt_of_le (HSW.out b hb) hw1.size, hxa⟩ ((hw1.block _ (Blk_lt HAH.out)).trans HAH.out) ((hw1.block _ (Blk_lt HFH.out)).trans HFH.out))
  obtain ⟨r, hr⟩ : ∃ r, (bi.any (fun x => !(((Val.mk 5 ab an as' at' au ai am)).holds x))) = r := ⟨_, rfl⟩
  rw [hr] at hc hh
  subst hh
  have HC := Lib.hid hc
  clear hva hvb hc hr
  go_enter Tryz.func95, Tryz.ntmps95
  go_wp2_with (refine wpList_store_fn rfl 167 _ _ rfl (w.heap.size + 3) rfl _ _ _ rfl Tryz.sizeFn 167 _ (((w.alloc (.cells #[.int .i64 5, .bool ab, .int .i64 an, .string as', .string at', .string au, .slice aA ai.length ac, .slice aB am.length ad] 27)).alloc (.cells #[.int .i64 5, .bool bb, .int .i64 bn, .string bs, .string bt, .string bu, .slice bA bi.length bc, .slice bB bm.length bd] 27)).alloc (.cells zeroCells.toArray 27)) rfl (by simp) ?_)
  refine HC.out.mono ?_
  rintro e6 w6 ⟨rfl, hx6⟩
  have HX6 := Lib.hid (HXH.out.trans hx6)
  have HR6 := Lib.hid ((hx6.block _ (Blk_lt HRH.out)).trans HRH.out)
  clear hx6
  go_wp2_with fail
  refine (truthE_ok (!r) _).mono ?_
  rintro et wt ⟨rfl, hxt⟩
  have HXt := Lib.hid hxt
  have HRt := Lib.hid ((hxt.block _ (Blk_lt HR6.out)).trans HR6.out)
  clear hxt
  go_wp2_with (refine wpList_store_cells rfl 27 _ _ rfl (w.heap.size + 2) 0 rfl (truthC (!r)) rfl Tryz.size27 rfl 27 zeroCells.toArray HRt.out (by simp [zeroCells, truthC]) (truth_one ((!r))) ?_)
  exact bodyPost_ret (v := .tuple #[.agg (show List Value from (truthC (!r))).toArray, .int .i64 0]) (results_cell Tryz.results95 rfl Tryz.agg27 Tryz.size27 rfl (cellsAt_setRow HRt.out (by simp [zeroCells, truthC]))) rfl ⟨(truthC (!r)), rfl, truth_at _ _ _, (HX6.out.trans HXt.out).setRow (by omega) _⟩
end Go.Proofs.YtebfoimbdljbmaaGreatDoor
