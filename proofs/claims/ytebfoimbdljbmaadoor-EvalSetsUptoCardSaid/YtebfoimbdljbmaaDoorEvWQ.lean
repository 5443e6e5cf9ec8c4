/-
  In, and what is asked of sets, as the program's evaluation has it. The conditions: what is handed in lies in memory as it should.
-/
import Derived.Test.YtebfoimbdljbmaaDoorEvAQ
namespace Go.Proofs.YtebfoimbdljbmaaDoor
open Go.RowKit
theorem setRow_last (w : World) (c c' : Array Value) (t : TypeId) : (w.alloc (.cells c t)).setRow w.heap.size c' = w.alloc (.cells c' t) := by
  simp only [World.setRow, World.alloc]
  congr 1
  apply Array.ext_getElem?
  intro i
  rw [Array.getElem?_modify]
  by_cases h : w.heap.size = i
  · subst h
    simp
  · have h' : ¬ i = w.heap.size := fun e => h e.symm
    simp [h, h', Array.getElem?_push]
/-- a function stored into the box that was made last -/
theorem wpList_store_fn {P : Program} {ops : Array Oper} {rest : List Oper} {op : Oper} {a : Act} {w : World} {Q : Exit → Act → World → Prop} (hgd : op.guard = none) (ty : TypeId) (x y : Operand) (ho : op.op = .store ty x y)
    (g : Nat) (hx : a.eval x = .pointer (some ⟨g, 0, none⟩)) (f : Fn) (p1 p2 : Array Value) (hy : a.eval y = .func f p1 p2) (hz : ∀ w, (Go.sizeOf ty).run P w = .ok 1 w)
    (T : TypeId) (c0 : Value) (W0 : World) (hW : w = W0.alloc (.cells #[c0] T)) (hg : g = W0.heap.size)
    (hk : wpList P ops Q rest (a.put op.dst undef) (W0.alloc (.cells #[.func f p1 p2] T))) : wpList P ops Q (op :: rest) a w :=
  wpList_plain hgd fun K hK => by
    subst hW hg
    have hst := run_storeCells_at (P := P) W0.heap.size 0 T [Value.func f p1 p2] 0 #[c0] (W0.alloc (.cells #[c0] T)) (heap_alloc_new W0 _) (by simp) (by simp [Value.oneCell'])
    simp only [Nat.add_zero] at hst
    have hst' : (storeVar ty ⟨W0.heap.size, 0, none⟩ (.func f p1 p2)).run P (W0.alloc (.cells #[c0] T)) = .ok () (W0.alloc (.cells #[.func f p1 p2] T)) := by
      rw [← setRow_last W0 #[c0] #[.func f p1 p2]]
      simpa [storeVar, hz, Value.cells] using hst
    unfold Oper.wp execOp
    simp only [ho, hx, hy, Instr.storeAt, Instr.sureAddr, Sem.run_bind, Sem.run_pure, Result.andThen_ok, hst']
    exact hK _ _ hk
theorem Tryd.sizeFn : ∀ w, (Go.sizeOf 95).run Tryd.prog w = .ok 1 w := fun _ => by kernel_rfl

theorem Tryd.enterS1 : ∀ args w, (callFunc 45 args).run Tryd.prog w = .ok (.enter 45 args) w := fun _ _ => by kernel_rfl
theorem Tryd.enterS2 : ∀ args w, (callFunc 47 args).run Tryd.prog w = .ok (.enter 47 args) w := fun _ _ => by kernel_rfl

set_option maxRecDepth 100000 in
set_option maxHeartbeats 4000000 in
theorem sets1_ok (a x : Val) (w : World) (ca cx : List Value) (ab : Nat) (ha : ∃ T : Nat → Prop, (∀ b, T b → b < w.heap.size) ∧ Val.At T w a ca) (hx : ∃ T : Nat → Prop, (∀ b, T b → b < w.heap.size) ∧ Val.At T w x cx) (hab : w.heap[ab]? = some (.cells ca.toArray 28 (0, 0))) :
    Calls Tryd.prog 45 (#[.agg cx.toArray] ++ #[.pointer (some ⟨ab, 0, none⟩)]) w fun e w' => e = .returned (.bool (a.holds x)) ∧ Ext w w' := by
  obtain ⟨T1, ht1, ha⟩ := ha
  obtain ⟨T2, ht2, hx⟩ := hx
  obtain ⟨ak, abo, an, as', at', au, aA, al, ac, aB, am, ad, rfl⟩ := ha.shape
  obtain ⟨xk, xbo, xn, xs, xt, xu, xA, xl, xc, xB, xm, xd, rfl⟩ := hx.shape
  have HX0 := Lib.hid ((Ext.refl w).alloc (.cells #[.int .i64 xk, .bool xbo, .int .i64 xn, .string xs, .string xt, .string xu, .slice xA xl xc, .slice xB xm xd] 28))
  have HAb := Lib.hid ((heap_alloc_old w (.cells #[.int .i64 xk, .bool xbo, .int .i64 xn, .string xs, .string xt, .string xu, .slice xA xl xc, .slice xB xm xd] 28) (Blk_lt hab)).trans hab)
  have HXb := Lib.hid (heap_alloc_new w (.cells #[.int .i64 xk, .bool xbo, .int .i64 xn, .string xs, .string xt, .string xu, .slice xA xl xc, .slice xB xm xd] 28))
  have hc := holds_ok a x (fun b => b < (w.alloc (.cells #[.int .i64 xk, .bool xbo, .int .i64 xn, .string xs, .string xt, .string xu, .slice xA xl xc, .slice xB xm xd] 28)).heap.size) _ [.int .i64 ak, .bool abo, .int .i64 an, .string as', .string at', .string au, .slice aA al ac, .slice aB am ad] [.int .i64 xk, .bool xbo, .int .i64 xn, .string xs, .string xt, .string xu, .slice xA xl xc, .slice xB xm xd] (fun _ h => h)
    ((Val.At.alike (Alike.of_ext HX0.out ht1) _ _ ha).mono fun b hb => Nat.lt_of_lt_of_le (ht1 b hb) HX0.out.size) ((Val.At.alike (Alike.of_ext HX0.out ht2) _ _ hx).mono fun b hb => Nat.lt_of_lt_of_le (ht2 b hb) HX0.out.size)
  obtain ⟨r, hr⟩ : ∃ r, a.holds x = r := ⟨_, rfl⟩
  rw [hr] at hc ⊢
  have HC := Lib.hid hc
  clear ht1 ht2 ha hx hab hc hr
  show Calls Tryd.prog 45 #[.agg #[.int .i64 xk, .bool xbo, .int .i64 xn, .string xs, .string xt, .string xu, .slice xA xl xc, .slice xB xm xd], .pointer (some ⟨ab, 0, none⟩)] w _
  go_enter Tryd.func45, Tryd.ntmps45
  go_wp2_with (first | refine wpList_load_cells rfl 28 _ rfl ab 0 rfl Tryd.agg27 Tryd.size27 (cs := [.int .i64 ak, .bool abo, .int .i64 an, .string as', .string at', .string au, .slice aA al ac, .slice aB am ad]) rfl (cells_of_row HAb.out) ?_ | refine wpList_load_cells rfl 28 _ rfl w.heap.size 0 rfl Tryd.agg27 Tryd.size27 (cs := [.int .i64 xk, .bool xbo, .int .i64 xn, .string xs, .string xt, .string xu, .slice xA xl xc, .slice xB xm xd]) rfl (cells_of_row HXb.out) ?_)
  refine HC.out.mono ?_
  rintro e1 w1 ⟨rfl, hx1⟩
  have HX1 := Lib.hid (HX0.out.trans hx1)
  clear hx1 HAb HXb HC
  go_wp2_with fail
  go_ret
  exact ⟨rfl, HX1.out⟩
set_option maxRecDepth 100000 in
set_option maxHeartbeats 4000000 in
theorem sets2_ok (a x : Val) (w : World) (ca cx : List Value) (ab hb : Nat) (ha : ∃ T : Nat → Prop, (∀ b, T b → b < w.heap.size) ∧ Val.At T w a ca) (hx : ∃ T : Nat → Prop, (∀ b, T b → b < w.heap.size) ∧ Val.At T w x cx) (hab : w.heap[ab]? = some (.cells ca.toArray 28 (0, 0)))
    (hhb : w.heap[hb]? = some (.cells #[.func (.func 45) #[] #[.pointer (some ⟨ab, 0, none⟩)]] 95 (0, 0))) :
    Calls Tryd.prog 47 (#[.agg cx.toArray] ++ #[.pointer (some ⟨hb, 0, none⟩)]) w fun e w' => e = .returned (.bool (!(a.holds x))) ∧ Ext w w' := by
  obtain ⟨T2, ht2, hx⟩ := hx
  obtain ⟨xk, xbo, xn, xs, xt, xu, xA, xl, xc, xB, xm, xd, rfl⟩ := hx.shape
  have HX0 := Lib.hid ((Ext.refl w).alloc (.cells #[.int .i64 xk, .bool xbo, .int .i64 xn, .string xs, .string xt, .string xu, .slice xA xl xc, .slice xB xm xd] 28))
  have hh0 : (w.alloc (.cells #[.int .i64 xk, .bool xbo, .int .i64 xn, .string xs, .string xt, .string xu, .slice xA xl xc, .slice xB xm xd] 28)).cell? ⟨hb, 0, none⟩ = some (.func (.func 45) #[] #[.pointer (some ⟨ab, 0, none⟩)]) := HX0.out.cell (cell_of_row _ _ 0 _ _ _ hhb)
  have HXb := Lib.hid (heap_alloc_new w (.cells #[.int .i64 xk, .bool xbo, .int .i64 xn, .string xs, .string xt, .string xu, .slice xA xl xc, .slice xB xm xd] 28))
  have hc := sets1_ok a x _ ca [.int .i64 xk, .bool xbo, .int .i64 xn, .string xs, .string xt, .string xu, .slice xA xl xc, .slice xB xm xd] ab
    (by obtain ⟨T1, ht1, ha⟩ := ha; exact ⟨T1, fun b hb => Nat.lt_of_lt_of_le (ht1 b hb) HX0.out.size, Val.At.alike (Alike.of_ext HX0.out ht1) _ _ ha⟩) ⟨T2, fun b hb => Nat.lt_of_lt_of_le (ht2 b hb) HX0.out.size, Val.At.alike (Alike.of_ext HX0.out ht2) _ _ hx⟩
    ((heap_alloc_old w (.cells #[.int .i64 xk, .bool xbo, .int .i64 xn, .string xs, .string xt, .string xu, .slice xA xl xc, .slice xB xm xd] 28) (Blk_lt hab)).trans hab)
  obtain ⟨r, hr⟩ : ∃ r, a.holds x = r := ⟨_, rfl⟩
  rw [hr] at hc ⊢
  have HC := Lib.hid hc
  have he := Tryd.enterS1
  clear ha ht2 hx hab hhb hc hr
  show Calls Tryd.prog 47 #[.agg #[.int .i64 xk, .bool xbo, .int .i64 xn, .string xs, .string xt, .string xu, .slice xA xl xc, .slice xB xm xd], .pointer (some ⟨hb, 0, none⟩)] w _
  go_enter Tryd.func47, Tryd.ntmps47
  go_wp2_with (first | refine wpList_load_cells rfl 28 _ rfl w.heap.size 0 rfl Tryd.agg27 Tryd.size27 (cs := [.int .i64 xk, .bool xbo, .int .i64 xn, .string xs, .string xt, .string xu, .slice xA xl xc, .slice xB xm xd]) rfl (cells_of_row HXb.out) ?_)
  refine HC.out.mono ?_
  rintro e1 w1 ⟨rfl, hx1⟩
  have HX1 := Lib.hid (HX0.out.trans hx1)
  clear hx1 HXb HC he hh0
  go_wp2_with fail
  go_ret
  exact ⟨rfl, HX1.out⟩

set_option maxRecDepth 100000 in
set_option maxHeartbeats 4000000 in
theorem setsE_ok (S : Nat → Prop) (op : Int) (a b : Val) (w : World) (ca cb : List Value) (hS : ∀ b, S b → b < w.heap.size) (ha : Val.At S w a ca) (hb : Val.At S w b cb) :
    Calls Tryd.prog 32 #[.int .i64 op, .agg ca.toArray, .agg cb.toArray] w (ValErrIn S (setsV op a b).1 (setsV op a b).2 w) := by
  obtain ⟨ak, ab, an, as', at', au, ai, am⟩ := a
  obtain ⟨aA, ac, aB, ad, rfl⟩ := ha.opened
  obtain ⟨bk, bb, bn, bs, bt, bu, bi, bm⟩ := b
  obtain ⟨bA, bc, bB, bd, rfl⟩ := hb.opened
  have HS := Lib.hid hS
  have HVa := Lib.hid ha
  have HVb := Lib.hid hb
  obtain ⟨res, hres⟩ : ∃ res, setsV op (Val.mk ak ab an as' at' au ai am) (Val.mk bk bb bn bs bt bu bi bm) = res := ⟨_, rfl⟩
  rw [hres]
  clear hS ha hb
  by_cases ha5 : ak = 5
  case neg =>
    have ea : (ak != 5) = true := by simpa using ha5
    have hh : res = (.zero, 30) := by rw [← hres]; simp [setsV, Val.kind, ha5, no]
    clear hres ha5
    obtain ⟨p0, p1, p2, ps, px⟩ := heapA3 w (.cells #[.int .i64 ak, .bool ab, .int .i64 an, .string as', .string at', .string au, .slice aA ai.length ac, .slice aB am.length ad] 28) (.cells #[.int .i64 bk, .bool bb, .int .i64 bn, .string bs, .string bt, .string bu, .slice bA bi.length bc, .slice bB bm.length bd] 28) (.cells zeroCells.toArray 28)
    have HA0 := Lib.hid p0
    have HB0 := Lib.hid p1
    have HR0 := Lib.hid p2
    have HX0 := Lib.hid px
    clear p0 p1 p2 ps px
    subst hh
    go_enter Tryd.func32, Tryd.ntmps32
    go_wp2_with (refine wpList_store_cells rfl 28 _ _ rfl (w.heap.size + 2) 0 rfl zeroCells rfl Tryd.size27 rfl 28 zeroCells.toArray HR0.out (by simp [zeroCells]) zero_one ?_)
    exact bodyPost_ret (v := .tuple #[.agg (show List Value from zeroCells).toArray, .int .i64 30]) (results_cell Tryd.results32 rfl Tryd.agg27 Tryd.size27 rfl (cellsAt_setRow HR0.out (by simp [zeroCells]))) rfl ⟨zeroCells, rfl, Val.zero_at _ _, HX0.out.setRow (by omega) _⟩
  subst ha5
  by_cases h21 : op = 21
  · subst h21
    have hh : res = yes ((Val.mk 5 ab an as' at' au ai am).holds (Val.mk bk bb bn bs bt bu bi bm)) := by rw [← hres]; simp [setsV, Val.kind]
    clear hres
    obtain ⟨p0, p1, p2, ps, px⟩ := heapA3 w (.cells #[.int .i64 5, .bool ab, .int .i64 an, .string as', .string at', .string au, .slice aA ai.length ac, .slice aB am.length ad] 28) (.cells #[.int .i64 bk, .bool bb, .int .i64 bn, .string bs, .string bt, .string bu, .slice bA bi.length bc, .slice bB bm.length bd] 28) (.cells zeroCells.toArray 28)
    have HA0 := Lib.hid p0
    have HB0 := Lib.hid p1
    have HR0 := Lib.hid p2
    have HX0 := Lib.hid px
    clear p0 p1 p2 ps px
    have HRH := Lib.hid ((heap_alloc_old (((w.alloc (.cells #[.int .i64 5, .bool ab, .int .i64 an, .string as', .string at', .string au, .slice aA ai.length ac, .slice aB am.length ad] 28)).alloc (.cells #[.int .i64 bk, .bool bb, .int .i64 bn, .string bs, .string bt, .string bu, .slice bA bi.length bc, .slice bB bm.length bd] 28)).alloc (.cells zeroCells.toArray 28)) (.cells #[.func (.func 45) #[] #[.pointer (some ⟨w.heap.size, 0, none⟩)]] 95) (Blk_lt HR0.out)).trans HR0.out)
    have HAH := Lib.hid ((heap_alloc_old (((w.alloc (.cells #[.int .i64 5, .bool ab, .int .i64 an, .string as', .string at', .string au, .slice aA ai.length ac, .slice aB am.length ad] 28)).alloc (.cells #[.int .i64 bk, .bool bb, .int .i64 bn, .string bs, .string bt, .string bu, .slice bA bi.length bc, .slice bB bm.length bd] 28)).alloc (.cells zeroCells.toArray 28)) (.cells #[.func (.func 45) #[] #[.pointer (some ⟨w.heap.size, 0, none⟩)]] 95) (Blk_lt HA0.out)).trans HA0.out)
    have HXH := Lib.hid (HX0.out.alloc (.cells #[.func (.func 45) #[] #[.pointer (some ⟨w.heap.size, 0, none⟩)]] 95))
    have HFH := Lib.hid (show ((((w.alloc (.cells #[.int .i64 5, .bool ab, .int .i64 an, .string as', .string at', .string au, .slice aA ai.length ac, .slice aB am.length ad] 28)).alloc (.cells #[.int .i64 bk, .bool bb, .int .i64 bn, .string bs, .string bt, .string bu, .slice bA bi.length bc, .slice bB bm.length bd] 28)).alloc (.cells zeroCells.toArray 28)).alloc (.cells #[.func (.func 45) #[] #[.pointer (some ⟨w.heap.size, 0, none⟩)]] 95)).heap[w.heap.size + 3]? = some (.cells #[.func (.func 45) #[] #[.pointer (some ⟨w.heap.size, 0, none⟩)]] 95 (0, 0)) from heap_alloc_at (by simp) _)
    have HSW := Lib.hid (show ∀ b, S b → b < ((((w.alloc (.cells #[.int .i64 5, .bool ab, .int .i64 an, .string as', .string at', .string au, .slice aA ai.length ac, .slice aB am.length ad] 28)).alloc (.cells #[.int .i64 bk, .bool bb, .int .i64 bn, .string bs, .string bt, .string bu, .slice bA bi.length bc, .slice bB bm.length bd] 28)).alloc (.cells zeroCells.toArray 28)).alloc (.cells #[.func (.func 45) #[] #[.pointer (some ⟨w.heap.size, 0, none⟩)]] 95)).heap.size from fun b hb => Nat.lt_of_lt_of_le (HS.out b hb) HXH.out.size)
    have hva := Val.At.alike (Alike.of_ext HXH.out HS.out) _ _ HVa.out
    have hvb := Val.At.alike (Alike.of_ext HXH.out HS.out) _ _ HVb.out
    have hc := sets1_ok (Val.mk 5 ab an as' at' au ai am) (Val.mk bk bb bn bs bt bu bi bm) ((((w.alloc (.cells #[.int .i64 5, .bool ab, .int .i64 an, .string as', .string at', .string au, .slice aA ai.length ac, .slice aB am.length ad] 28)).alloc (.cells #[.int .i64 bk, .bool bb, .int .i64 bn, .string bs, .string bt, .string bu, .slice bA bi.length bc, .slice bB bm.length bd] 28)).alloc (.cells zeroCells.toArray 28)).alloc (.cells #[.func (.func 45) #[] #[.pointer (some ⟨w.heap.size, 0, none⟩)]] 95)) [.int .i64 5, .bool ab, .int .i64 an, .string as', .string at', .string au, .slice aA ai.length ac, .slice aB am.length ad] [.int .i64 bk, .bool bb, .int .i64 bn, .string bs, .string bt, .string bu, .slice bA bi.length bc, .slice bB bm.length bd] w.heap.size ⟨S, HSW.out, hva⟩ ⟨S, HSW.out, hvb⟩ HAH.out
    obtain ⟨r, hr⟩ : ∃ r, ((Val.mk 5 ab an as' at' au ai am)).holds (Val.mk bk bb bn bs bt bu bi bm) = r := ⟨_, rfl⟩
    rw [hr] at hc hh
    subst hh
    have HC := Lib.hid hc
    have he := Tryd.enterS1
    clear hva hvb hc hr
    go_enter Tryd.func32, Tryd.ntmps32
    go_wp2_with (first | refine wpList_load_cells rfl 28 _ rfl (w.heap.size + 1) 0 rfl Tryd.agg27 Tryd.size27 (cs := [.int .i64 bk, .bool bb, .int .i64 bn, .string bs, .string bt, .string bu, .slice bA bi.length bc, .slice bB bm.length bd]) rfl (cells_of_row HB0.out) ?_ | refine wpList_store_fn rfl 95 _ _ rfl (w.heap.size + 3) rfl _ _ _ rfl Tryd.sizeFn 95 _ (((w.alloc (.cells #[.int .i64 5, .bool ab, .int .i64 an, .string as', .string at', .string au, .slice aA ai.length ac, .slice aB am.length ad] 28)).alloc (.cells #[.int .i64 bk, .bool bb, .int .i64 bn, .string bs, .string bt, .string bu, .slice bA bi.length bc, .slice bB bm.length bd] 28)).alloc (.cells zeroCells.toArray 28)) rfl (by simp) ?_)
    refine HC.out.mono ?_
    rintro e6 w6 ⟨rfl, hx6⟩
    have HX6 := Lib.hid (HXH.out.trans hx6)
    have HR6 := Lib.hid ((hx6.block _ (Blk_lt HRH.out)).trans HRH.out)
    clear hx6
    go_wp2_with fail
    refine (truthE_ok r _).mono ?_
    rintro et wt ⟨rfl, hxt⟩
    have HXt := Lib.hid hxt
    have HRt := Lib.hid ((hxt.block _ (Blk_lt HR6.out)).trans HR6.out)
    clear hxt
    go_wp2_with (refine wpList_store_cells rfl 28 _ _ rfl (w.heap.size + 2) 0 rfl (truthC (r)) rfl Tryd.size27 rfl 28 zeroCells.toArray HRt.out (by simp [zeroCells, truthC]) (truth_one (r)) ?_)
    exact bodyPost_ret (v := .tuple #[.agg (show List Value from (truthC (r))).toArray, .int .i64 0]) (results_cell Tryd.results32 rfl Tryd.agg27 Tryd.size27 rfl (cellsAt_setRow HRt.out (by simp [zeroCells, truthC]))) rfl ⟨(truthC (r)), rfl, truth_at _ _ _, (HX6.out.trans HXt.out).setRow (by omega) _⟩
  have e21 : (op == 21) = false := by simpa using h21
  have n21 : (op != 21) = true := by simpa using h21
  by_cases hb5 : bk = 5
  case neg =>
    have eb : (bk != 5) = true := by simpa using hb5
    have hh : res = (.zero, 30) := by rw [← hres]; simp [setsV, Val.kind, hb5, h21, no]
    clear hres hb5 h21
    obtain ⟨p0, p1, p2, ps, px⟩ := heapA3 w (.cells #[.int .i64 5, .bool ab, .int .i64 an, .string as', .string at', .string au, .slice aA ai.length ac, .slice aB am.length ad] 28) (.cells #[.int .i64 bk, .bool bb, .int .i64 bn, .string bs, .string bt, .string bu, .slice bA bi.length bc, .slice bB bm.length bd] 28) (.cells zeroCells.toArray 28)
    have HA0 := Lib.hid p0
    have HB0 := Lib.hid p1
    have HR0 := Lib.hid p2
    have HX0 := Lib.hid px
    clear p0 p1 p2 ps px
    subst hh
    go_enter Tryd.func32, Tryd.ntmps32
    go_wp2_with (refine wpList_store_cells rfl 28 _ _ rfl (w.heap.size + 2) 0 rfl zeroCells rfl Tryd.size27 rfl 28 zeroCells.toArray HR0.out (by simp [zeroCells]) zero_one ?_)
    exact bodyPost_ret (v := .tuple #[.agg (show List Value from zeroCells).toArray, .int .i64 30]) (results_cell Tryd.results32 rfl Tryd.agg27 Tryd.size27 rfl (cellsAt_setRow HR0.out (by simp [zeroCells]))) rfl ⟨zeroCells, rfl, Val.zero_at _ _, HX0.out.setRow (by omega) _⟩
  subst hb5
  by_cases h23 : op = 23
  · subst h23
    have hh : res = yes (bi.any fun x => (Val.mk 5 ab an as' at' au ai am).holds x) := by rw [← hres]; simp [setsV, Val.kind, Val.items]
    clear hres h21
    obtain ⟨p0, p1, p2, ps, px⟩ := heapA3 w (.cells #[.int .i64 5, .bool ab, .int .i64 an, .string as', .string at', .string au, .slice aA ai.length ac, .slice aB am.length ad] 28) (.cells #[.int .i64 5, .bool bb, .int .i64 bn, .string bs, .string bt, .string bu, .slice bA bi.length bc, .slice bB bm.length bd] 28) (.cells zeroCells.toArray 28)
    have HA0 := Lib.hid p0
    have HB0 := Lib.hid p1
    have HR0 := Lib.hid p2
    have HX0 := Lib.hid px
    clear p0 p1 p2 ps px
    have HRH := Lib.hid ((heap_alloc_old (((w.alloc (.cells #[.int .i64 5, .bool ab, .int .i64 an, .string as', .string at', .string au, .slice aA ai.length ac, .slice aB am.length ad] 28)).alloc (.cells #[.int .i64 5, .bool bb, .int .i64 bn, .string bs, .string bt, .string bu, .slice bA bi.length bc, .slice bB bm.length bd] 28)).alloc (.cells zeroCells.toArray 28)) (.cells #[.func (.func 45) #[] #[.pointer (some ⟨w.heap.size, 0, none⟩)]] 95) (Blk_lt HR0.out)).trans HR0.out)
    have HAH := Lib.hid ((heap_alloc_old (((w.alloc (.cells #[.int .i64 5, .bool ab, .int .i64 an, .string as', .string at', .string au, .slice aA ai.length ac, .slice aB am.length ad] 28)).alloc (.cells #[.int .i64 5, .bool bb, .int .i64 bn, .string bs, .string bt, .string bu, .slice bA bi.length bc, .slice bB bm.length bd] 28)).alloc (.cells zeroCells.toArray 28)) (.cells #[.func (.func 45) #[] #[.pointer (some ⟨w.heap.size, 0, none⟩)]] 95) (Blk_lt HA0.out)).trans HA0.out)
    have HXH := Lib.hid (HX0.out.alloc (.cells #[.func (.func 45) #[] #[.pointer (some ⟨w.heap.size, 0, none⟩)]] 95))
    have HFH := Lib.hid (show ((((w.alloc (.cells #[.int .i64 5, .bool ab, .int .i64 an, .string as', .string at', .string au, .slice aA ai.length ac, .slice aB am.length ad] 28)).alloc (.cells #[.int .i64 5, .bool bb, .int .i64 bn, .string bs, .string bt, .string bu, .slice bA bi.length bc, .slice bB bm.length bd] 28)).alloc (.cells zeroCells.toArray 28)).alloc (.cells #[.func (.func 45) #[] #[.pointer (some ⟨w.heap.size, 0, none⟩)]] 95)).heap[w.heap.size + 3]? = some (.cells #[.func (.func 45) #[] #[.pointer (some ⟨w.heap.size, 0, none⟩)]] 95 (0, 0)) from heap_alloc_at (by simp) _)
    have HSW := Lib.hid (show ∀ b, S b → b < ((((w.alloc (.cells #[.int .i64 5, .bool ab, .int .i64 an, .string as', .string at', .string au, .slice aA ai.length ac, .slice aB am.length ad] 28)).alloc (.cells #[.int .i64 5, .bool bb, .int .i64 bn, .string bs, .string bt, .string bu, .slice bA bi.length bc, .slice bB bm.length bd] 28)).alloc (.cells zeroCells.toArray 28)).alloc (.cells #[.func (.func 45) #[] #[.pointer (some ⟨w.heap.size, 0, none⟩)]] 95)).heap.size from fun b hb => Nat.lt_of_lt_of_le (HS.out b hb) HXH.out.size)
    have hva := Val.At.alike (Alike.of_ext HXH.out HS.out) _ _ HVa.out
    have hvb := Val.At.alike (Alike.of_ext HXH.out HS.out) _ _ HVb.out
    have hc := containsFunc_okV 45 #[.pointer (some ⟨w.heap.size, 0, none⟩)] (fun x => ((Val.mk 5 ab an as' at' au ai am)).holds x) S bi _ ((((w.alloc (.cells #[.int .i64 5, .bool ab, .int .i64 an, .string as', .string at', .string au, .slice aA ai.length ac, .slice aB am.length ad] 28)).alloc (.cells #[.int .i64 5, .bool bb, .int .i64 bn, .string bs, .string bt, .string bu, .slice bA bi.length bc, .slice bB bm.length bd] 28)).alloc (.cells zeroCells.toArray 28)).alloc (.cells #[.func (.func 45) #[] #[.pointer (some ⟨w.heap.size, 0, none⟩)]] 95)) Tryd.enterS1 HSW.out hvb.vals (fun x _ w1 cx hw1 hxa => sets1_ok (Val.mk 5 ab an as' at' au ai am) x w1 [.int .i64 5, .bool ab, .int .i64 an, .string as', .string at', .string au, .slice aA ai.length ac, .slice aB am.length ad] cx w.heap.size ⟨S, fun b hb => Nat.lt_of_lt_of_le (HSW.out b hb) hw1.size, Val.At.alike (Alike.of_ext hw1 HSW.out) _ _ hva⟩ ⟨S, fun b hb => Nat.lt_of_lt_of_le (HSW.out b hb) hw1.size, hxa⟩ ((hw1.block _ (Blk_lt HAH.out)).trans HAH.out))
    obtain ⟨r, hr⟩ : ∃ r, (bi.any (fun x => ((Val.mk 5 ab an as' at' au ai am)).holds x)) = r := ⟨_, rfl⟩
    rw [hr] at hc hh
    subst hh
    have HC := Lib.hid hc
    clear hva hvb hc hr
    go_enter Tryd.func32, Tryd.ntmps32
    go_wp2_with (refine wpList_store_fn rfl 95 _ _ rfl (w.heap.size + 3) rfl _ _ _ rfl Tryd.sizeFn 95 _ (((w.alloc (.cells #[.int .i64 5, .bool ab, .int .i64 an, .string as', .string at', .string au, .slice aA ai.length ac, .slice aB am.length ad] 28)).alloc (.cells #[.int .i64 5, .bool bb, .int .i64 bn, .string bs, .string bt, .string bu, .slice bA bi.length bc, .slice bB bm.length bd] 28)).alloc (.cells zeroCells.toArray 28)) rfl (by simp) ?_)
    refine HC.out.mono ?_
    rintro e6 w6 ⟨rfl, hx6⟩
    have HX6 := Lib.hid (HXH.out.trans hx6)
    have HR6 := Lib.hid ((hx6.block _ (Blk_lt HRH.out)).trans HRH.out)
    clear hx6
    go_wp2_with fail
    refine (truthE_ok r _).mono ?_
    rintro et wt ⟨rfl, hxt⟩
    have HXt := Lib.hid hxt
    have HRt := Lib.hid ((hxt.block _ (Blk_lt HR6.out)).trans HR6.out)
    clear hxt
    go_wp2_with (refine wpList_store_cells rfl 28 _ _ rfl (w.heap.size + 2) 0 rfl (truthC (r)) rfl Tryd.size27 rfl 28 zeroCells.toArray HRt.out (by simp [zeroCells, truthC]) (truth_one (r)) ?_)
    exact bodyPost_ret (v := .tuple #[.agg (show List Value from (truthC (r))).toArray, .int .i64 0]) (results_cell Tryd.results32 rfl Tryd.agg27 Tryd.size27 rfl (cellsAt_setRow HRt.out (by simp [zeroCells, truthC]))) rfl ⟨(truthC (r)), rfl, truth_at _ _ _, (HX6.out.trans HXt.out).setRow (by omega) _⟩
  have e23 : (op == 23) = false := by simpa using h23
  have hh : res = yes (!(bi.any fun x => !((Val.mk 5 ab an as' at' au ai am).holds x))) := by rw [← hres]; simp only [setsV, Val.kind, Val.items, if_neg h21, if_neg h23]; rw [if_neg (by simp)]
  clear hres h21 h23
  obtain ⟨p0, p1, p2, ps, px⟩ := heapA3 w (.cells #[.int .i64 5, .bool ab, .int .i64 an, .string as', .string at', .string au, .slice aA ai.length ac, .slice aB am.length ad] 28) (.cells #[.int .i64 5, .bool bb, .int .i64 bn, .string bs, .string bt, .string bu, .slice bA bi.length bc, .slice bB bm.length bd] 28) (.cells zeroCells.toArray 28)
  have HA0 := Lib.hid p0
  have HB0 := Lib.hid p1
  have HR0 := Lib.hid p2
  have HX0 := Lib.hid px
  clear p0 p1 p2 ps px
  have HRH := Lib.hid ((heap_alloc_old (((w.alloc (.cells #[.int .i64 5, .bool ab, .int .i64 an, .string as', .string at', .string au, .slice aA ai.length ac, .slice aB am.length ad] 28)).alloc (.cells #[.int .i64 5, .bool bb, .int .i64 bn, .string bs, .string bt, .string bu, .slice bA bi.length bc, .slice bB bm.length bd] 28)).alloc (.cells zeroCells.toArray 28)) (.cells #[.func (.func 45) #[] #[.pointer (some ⟨w.heap.size, 0, none⟩)]] 95) (Blk_lt HR0.out)).trans HR0.out)
  have HAH := Lib.hid ((heap_alloc_old (((w.alloc (.cells #[.int .i64 5, .bool ab, .int .i64 an, .string as', .string at', .string au, .slice aA ai.length ac, .slice aB am.length ad] 28)).alloc (.cells #[.int .i64 5, .bool bb, .int .i64 bn, .string bs, .string bt, .string bu, .slice bA bi.length bc, .slice bB bm.length bd] 28)).alloc (.cells zeroCells.toArray 28)) (.cells #[.func (.func 45) #[] #[.pointer (some ⟨w.heap.size, 0, none⟩)]] 95) (Blk_lt HA0.out)).trans HA0.out)
  have HXH := Lib.hid (HX0.out.alloc (.cells #[.func (.func 45) #[] #[.pointer (some ⟨w.heap.size, 0, none⟩)]] 95))
  have HFH := Lib.hid (show ((((w.alloc (.cells #[.int .i64 5, .bool ab, .int .i64 an, .string as', .string at', .string au, .slice aA ai.length ac, .slice aB am.length ad] 28)).alloc (.cells #[.int .i64 5, .bool bb, .int .i64 bn, .string bs, .string bt, .string bu, .slice bA bi.length bc, .slice bB bm.length bd] 28)).alloc (.cells zeroCells.toArray 28)).alloc (.cells #[.func (.func 45) #[] #[.pointer (some ⟨w.heap.size, 0, none⟩)]] 95)).heap[w.heap.size + 3]? = some (.cells #[.func (.func 45) #[] #[.pointer (some ⟨w.heap.size, 0, none⟩)]] 95 (0, 0)) from heap_alloc_at (by simp) _)
  have HSW := Lib.hid (show ∀ b, S b → b < ((((w.alloc (.cells #[.int .i64 5, .bool ab, .int .i64 an, .string as', .string at', .string au, .slice aA ai.length ac, .slice aB am.length ad] 28)).alloc (.cells #[.int .i64 5, .bool bb, .int .i64 bn, .string bs, .string bt, .string bu, .slice bA bi.length bc, .slice bB bm.length bd] 28)).alloc (.cells zeroCells.toArray 28)).alloc (.cells #[.func (.func 45) #[] #[.pointer (some ⟨w.heap.size, 0, none⟩)]] 95)).heap.size from fun b hb => Nat.lt_of_lt_of_le (HS.out b hb) HXH.out.size)
  have hva := Val.At.alike (Alike.of_ext HXH.out HS.out) _ _ HVa.out
  have hvb := Val.At.alike (Alike.of_ext HXH.out HS.out) _ _ HVb.out
  have hc := containsFunc_okV 47 #[.pointer (some ⟨w.heap.size + 3, 0, none⟩)] (fun x => !(((Val.mk 5 ab an as' at' au ai am)).holds x)) S bi _ ((((w.alloc (.cells #[.int .i64 5, .bool ab, .int .i64 an, .string as', .string at', .string au, .slice aA ai.length ac, .slice aB am.length ad] 28)).alloc (.cells #[.int .i64 5, .bool bb, .int .i64 bn, .string bs, .string bt, .string bu, .slice bA bi.length bc, .slice bB bm.length bd] 28)).alloc (.cells zeroCells.toArray 28)).alloc (.cells #[.func (.func 45) #[] #[.pointer (some ⟨w.heap.size, 0, none⟩)]] 95)) Tryd.enterS2 HSW.out hvb.vals (fun x _ w1 cx hw1 hxa => sets2_ok (Val.mk 5 ab an as' at' au ai am) x w1 [.int .i64 5, .bool ab, .int .i64 an, .string as', .string at', .string au, .slice aA ai.length ac, .slice aB am.length ad] cx w.heap.size (w.heap.size + 3) ⟨S, fun b hb => Nat.lt_of_lt_of_le (HSW.out b hb) hw1.size, Val.At.alike (Alike.of_ext hw1 HSW.out) _ _ hva⟩ ⟨S, fun b hb => Nat.lt_of_lt_of_le (HSW.out b hb) hw1.size, hxa⟩ ((hw1.block _ (Blk_lt HAH.out)).trans HAH.out) ((hw1.block _ (Blk_lt HFH.out)).trans HFH.out))
  obtain ⟨r, hr⟩ : ∃ r, (bi.any (fun x => !(((Val.mk 5 ab an as' at' au ai am)).holds x))) = r := ⟨_, rfl⟩
  rw [hr] at hc hh
  subst hh
  have HC := Lib.hid hc
  clear hva hvb hc hr
  go_enter Tryd.func32, Tryd.ntmps32
  go_wp2_with (refine wpList_store_fn rfl 95 _ _ rfl (w.heap.size + 3) rfl _ _ _ rfl Tryd.sizeFn 95 _ (((w.alloc (.cells #[.int .i64 5, .bool ab, .int .i64 an, .string as', .string at', .string au, .slice aA ai.length ac, .slice aB am.length ad] 28)).alloc (.cells #[.int .i64 5, .bool bb, .int .i64 bn, .string bs, .string bt, .string bu, .slice bA bi.length bc, .slice bB bm.length bd] 28)).alloc (.cells zeroCells.toArray 28)) rfl (by simp) ?_)
  refine HC.out.mono ?_
  rintro e6 w6 ⟨rfl, hx6⟩
  have HX6 := Lib.hid (HXH.out.trans hx6)
  have HR6 := Lib.hid ((hx6.block _ (Blk_lt HRH.out)).trans HRH.out)
  clear hx6
  go_wp2_with fail
  refine (truthE_ok (!r) _).mono ?_
  rintro et wt ⟨rfl, hxt⟩
  have HXt := Lib.hid hxt
  have HRt := Lib.hid ((hxt.block _ (Blk_lt HR6.out)).trans HR6.out)
  clear hxt
  go_wp2_with (refine wpList_store_cells rfl 28 _ _ rfl (w.heap.size + 2) 0 rfl (truthC (!r)) rfl Tryd.size27 rfl 28 zeroCells.toArray HRt.out (by simp [zeroCells, truthC]) (truth_one ((!r))) ?_)
  exact bodyPost_ret (v := .tuple #[.agg (show List Value from (truthC (!r))).toArray, .int .i64 0]) (results_cell Tryd.results32 rfl Tryd.agg27 Tryd.size27 rfl (cellsAt_setRow HRt.out (by simp [zeroCells, truthC]))) rfl ⟨(truthC (!r)), rfl, truth_at _ _ _, (HX6.out.trans HXt.out).setRow (by omega) _⟩
end Go.Proofs.YtebfoimbdljbmaaDoor
