/-
  What asks for two values, as the program's evaluation has it. The conditions: what is handed in lies in memory as it should.
-/
import Derived.Test.YtebfoimbdljbmaaDoorEvIQ
namespace Go.Proofs.YtebfoimbdljbmaaDoor
open Go.RowKit
/-- one cell loaded, whatever lies in it -/
theorem wpList_load_lone {P : Program} {ops : Array Oper} {rest : List Oper} {o : Oper} {a : Act} {w : World} {Q : Exit → Act → World → Prop} (hgd : o.guard = none) (ty : TypeId) (x : Operand) (ho : o.op = .load ty x)
    (b off : Nat) (hx : a.eval x = .pointer (some ⟨b, off, none⟩)) (hA : ∀ w, (isAgg ty).run P w = .ok false w) (v : Value) (h : w.cell? ⟨b, off, none⟩ = some v) (hk : wpList P ops Q rest (a.put o.dst v) w) : wpList P ops Q (o :: rest) a w :=
  wpList_plain hgd fun K hK => by
    unfold Oper.wp execOp
    simp only [ho, hx, Instr.loadAt, Instr.sureAddr, loadVar, Sem.run_bind, Sem.run_pure, Result.andThen_ok, hA, Bool.false_eq_true, if_false, run_load, h]
    exact hK _ _ hk
/-- a key looked up in a map, the answer known -/
theorem wpList_lookup_known {P : Program} {ops : Array Oper} {rest : List Oper} {o : Oper} {a : Act} {w : World} {Q : Exit → Act → World → Prop} (hgd : o.guard = none) (ty : TypeId) (x i : Operand) (ho : o.op = .lookup ty x i false)
    (mv kv v : Value) (hx : a.eval x = mv) (hi : a.eval i = kv) (h : (Instr.lookup ty mv kv false).run P w = .ok v w) (hk : wpList P ops Q rest (a.put o.dst v) w) : wpList P ops Q (o :: rest) a w :=
  wpList_plain hgd fun K hK => by
    unfold Oper.wp execOp
    simp only [ho, hx, hi, Sem.run_bind, Sem.run_pure, Result.andThen_ok, h]
    exact hK _ _ hk
theorem Tryd.aggMap : ∀ w, (isAgg 82).run Tryd.prog w = .ok false w := fun _ => by kernel_rfl
theorem Tryd.enter_add : ∀ args w, (callFunc 119 args).run Tryd.prog w = .ok (.enter 119 args) w := fun _ _ => by kernel_rfl
set_option maxRecDepth 100000 in
set_option maxHeartbeats 4000000 in
theorem two_11 {q : Req} {c : List Ent} (S : Nat → Prop) (a b : Val) (g : Nat) (w : World) (ca cb : List Value) (hS : ∀ b, S b → b < w.heap.size) (hr : Rk q c w g) (ha : Val.At S w a ca) (hb : Val.At S w b cb) :
    Calls Tryd.prog 21 #[.pointer (some ⟨g, 0, none⟩), .int .i64 11, .agg ca.toArray, .agg cb.toArray] w (ValErrIn S (twoV c 11 a b).1 (twoV c 11 a b).2 w) := by
  obtain ⟨ak, ab, an, as', at', au, ai, am⟩ := a
  obtain ⟨aA, ac, aB, ad, rfl⟩ := ha.opened
  obtain ⟨bk, bb, bn, bs, bt, bu, bi, bm⟩ := b
  obtain ⟨bA, bc, bB, bd, rfl⟩ := hb.opened
  have HS := Lib.hid hS
  have HVa := Lib.hid ha
  have HVb := Lib.hid hb
  have HRk := Lib.hid hr
  obtain ⟨res, hres⟩ : ∃ res, twoV c 11 (Val.mk ak ab an as' at' au ai am) (Val.mk bk bb bn bs bt bu bi bm) = res := ⟨_, rfl⟩
  rw [hres]
  by_cases ha2 : ak = 2
  case neg =>
    have ea : (ak != 2) = true := by simpa using ha2
    have hh : res = (.zero, 30) := by rw [← hres]; simp [twoV, Val.kind, ha2, no]
    subst hh
    clear hres ha2
    obtain ⟨p0, p1, p2, ps, px⟩ := heapA3 w (.cells #[.int .i64 ak, .bool ab, .int .i64 an, .string as', .string at', .string au, .slice aA ai.length ac, .slice aB am.length ad] 28) (.cells #[.int .i64 bk, .bool bb, .int .i64 bn, .string bs, .string bt, .string bu, .slice bA bi.length bc, .slice bB bm.length bd] 28) (.cells zeroCells.toArray 28)
    have HA0 := Lib.hid p0
    have HB0 := Lib.hid p1
    have HR0 := Lib.hid p2
    have HX0 := Lib.hid px
    clear p0 p1 p2 ps px
    have HSW := Lib.hid (show ∀ b, S b → b < (((w.alloc (.cells #[.int .i64 ak, .bool ab, .int .i64 an, .string as', .string at', .string au, .slice aA ai.length ac, .slice aB am.length ad] 28)).alloc (.cells #[.int .i64 bk, .bool bb, .int .i64 bn, .string bs, .string bt, .string bu, .slice bA bi.length bc, .slice bB bm.length bd] 28)).alloc (.cells zeroCells.toArray 28)).heap.size from fun b hb => Nat.lt_of_lt_of_le (HS.out b hb) HX0.out.size)
    have Hva := Lib.hid (Val.At.alike (Alike.of_ext HX0.out HS.out) _ _ HVa.out)
    have Hvb := Lib.hid (Val.At.alike (Alike.of_ext HX0.out HS.out) _ _ HVb.out)
    clear hS hr ha hb
    go_enter Tryd.func21, Tryd.ntmps21
    go_wp2_with (refine wpList_store_cells rfl 28 _ _ rfl (w.heap.size + 2) 0 rfl zeroCells rfl Tryd.size27 rfl 28 zeroCells.toArray HR0.out (by simp [zeroCells]) zero_one ?_)
    exact bodyPost_ret (v := .tuple #[.agg (show List Value from zeroCells).toArray, .int .i64 30]) (results_cell Tryd.results21 rfl Tryd.agg27 Tryd.size27 rfl (cellsAt_setRow HR0.out (by simp [zeroCells]))) rfl ⟨zeroCells, rfl, Val.zero_at _ _, HX0.out.setRow (by omega) _⟩
  subst ha2
  by_cases hb2 : bk = 2
  case neg =>
    have eb : (bk != 2) = true := by simpa using hb2
    have hh : res = (.zero, 30) := by rw [← hres]; simp [twoV, Val.kind, hb2, no]
    subst hh
    clear hres hb2
    obtain ⟨p0, p1, p2, ps, px⟩ := heapA3 w (.cells #[.int .i64 2, .bool ab, .int .i64 an, .string as', .string at', .string au, .slice aA ai.length ac, .slice aB am.length ad] 28) (.cells #[.int .i64 bk, .bool bb, .int .i64 bn, .string bs, .string bt, .string bu, .slice bA bi.length bc, .slice bB bm.length bd] 28) (.cells zeroCells.toArray 28)
    have HA0 := Lib.hid p0
    have HB0 := Lib.hid p1
    have HR0 := Lib.hid p2
    have HX0 := Lib.hid px
    clear p0 p1 p2 ps px
    have HSW := Lib.hid (show ∀ b, S b → b < (((w.alloc (.cells #[.int .i64 2, .bool ab, .int .i64 an, .string as', .string at', .string au, .slice aA ai.length ac, .slice aB am.length ad] 28)).alloc (.cells #[.int .i64 bk, .bool bb, .int .i64 bn, .string bs, .string bt, .string bu, .slice bA bi.length bc, .slice bB bm.length bd] 28)).alloc (.cells zeroCells.toArray 28)).heap.size from fun b hb => Nat.lt_of_lt_of_le (HS.out b hb) HX0.out.size)
    have Hva := Lib.hid (Val.At.alike (Alike.of_ext HX0.out HS.out) _ _ HVa.out)
    have Hvb := Lib.hid (Val.At.alike (Alike.of_ext HX0.out HS.out) _ _ HVb.out)
    clear hS hr ha hb
    go_enter Tryd.func21, Tryd.ntmps21
    go_wp2_with (refine wpList_store_cells rfl 28 _ _ rfl (w.heap.size + 2) 0 rfl zeroCells rfl Tryd.size27 rfl 28 zeroCells.toArray HR0.out (by simp [zeroCells]) zero_one ?_)
    exact bodyPost_ret (v := .tuple #[.agg (show List Value from zeroCells).toArray, .int .i64 30]) (results_cell Tryd.results21 rfl Tryd.agg27 Tryd.size27 rfl (cellsAt_setRow HR0.out (by simp [zeroCells]))) rfl ⟨zeroCells, rfl, Val.zero_at _ _, HX0.out.setRow (by omega) _⟩
  subst hb2
  obtain ⟨p0, p1, p2, ps, px⟩ := heapA3 w (.cells #[.int .i64 2, .bool ab, .int .i64 an, .string as', .string at', .string au, .slice aA ai.length ac, .slice aB am.length ad] 28) (.cells #[.int .i64 2, .bool bb, .int .i64 bn, .string bs, .string bt, .string bu, .slice bA bi.length bc, .slice bB bm.length bd] 28) (.cells zeroCells.toArray 28)
  have HA0 := Lib.hid p0
  have HB0 := Lib.hid p1
  have HR0 := Lib.hid p2
  have HX0 := Lib.hid px
  clear p0 p1 p2 ps px
  have HSW := Lib.hid (show ∀ b, S b → b < (((w.alloc (.cells #[.int .i64 2, .bool ab, .int .i64 an, .string as', .string at', .string au, .slice aA ai.length ac, .slice aB am.length ad] 28)).alloc (.cells #[.int .i64 2, .bool bb, .int .i64 bn, .string bs, .string bt, .string bu, .slice bA bi.length bc, .slice bB bm.length bd] 28)).alloc (.cells zeroCells.toArray 28)).heap.size from fun b hb => Nat.lt_of_lt_of_le (HS.out b hb) HX0.out.size)
  have Hva := Lib.hid (Val.At.alike (Alike.of_ext HX0.out HS.out) _ _ HVa.out)
  have Hvb := Lib.hid (Val.At.alike (Alike.of_ext HX0.out HS.out) _ _ HVb.out)
  obtain ⟨_, _, _, _, _, _, _, hsum⟩ := hr.ext HX0.out
  obtain ⟨m, hm0, hm1, hm2, hm3⟩ := hsum
  have hl := (hm3 _ rfl).1
  have hc := add_ok an bn ha.bounds.2.1 hb.bounds.2.1 (((w.alloc (.cells #[.int .i64 2, .bool ab, .int .i64 an, .string as', .string at', .string au, .slice aA ai.length ac, .slice aB am.length ad] 28)).alloc (.cells #[.int .i64 2, .bool bb, .int .i64 bn, .string bs, .string bt, .string bu, .slice bA bi.length bc, .slice bB bm.length bd] 28)).alloc (.cells zeroCells.toArray 28))
  unfold FitAns at hc
  obtain ⟨⟨n, ne⟩, hn⟩ : ∃ r, fitN (an + bn) = r := ⟨_, rfl⟩
  rw [hn] at hc
  have HC := Lib.hid hc
  have HN := Lib.hid hn
  have he := Tryd.enter_add
  have HD : Hid (res = fitI (an + bn)) := Lib.hid (by rw [← hres]; simp [twoV, Val.kind, Val.num])
  clear hS hr ha hb hres hc hn hm3
  have Hm0 := Lib.hid hm0
  have HL := Lib.hid hl
  clear hm0 hl
  go_enter Tryd.func21, Tryd.ntmps21
  go_wp2_with (first | refine wpList_load_lone rfl 82 _ rfl 0 0 rfl Tryd.aggMap _ Hm0.out ?_ | refine wpList_lookup_known rfl 82 _ _ rfl _ _ _ rfl rfl HL.out ?_)
  refine HC.out.mono ?_
  rintro e1 w1 ⟨rfl, rfl⟩
  clear he
  by_cases hf : -9223372036854775808 ≤ an + bn ∧ an + bn ≤ 9223372036854775807
  case neg =>
    obtain ⟨rfl, rfl⟩ : n = 0 ∧ ne = 14 := by have := HN.out; unfold fitN at this; rw [if_neg hf] at this; exact ⟨by injection this with h1 h2; exact h1.symm, by injection this with h1 h2; exact h2.symm⟩
    have hh : res = (.zero, 14) := by rw [HD.out]; unfold fitI; rw [if_neg hf]; rfl
    subst hh
    clear hf
    go_wp2_with (refine wpList_store_cells rfl 28 _ _ rfl (w.heap.size + 2) 0 rfl zeroCells rfl Tryd.size27 rfl 28 zeroCells.toArray HR0.out (by simp [zeroCells]) zero_one ?_)
    exact bodyPost_ret (v := .tuple #[.agg (show List Value from zeroCells).toArray, .int .i64 14]) (results_cell Tryd.results21 rfl Tryd.agg27 Tryd.size27 rfl (cellsAt_setRow HR0.out (by simp [zeroCells]))) rfl ⟨zeroCells, rfl, Val.zero_at _ _, HX0.out.setRow (by omega) _⟩
  obtain ⟨hn0, rfl⟩ : an + bn = n ∧ ne = 0 := by have := HN.out; unfold fitN at this; rw [if_pos hf] at this; exact ⟨by injection this with h1 h2, by injection this with h1 h2; exact h2.symm⟩
  have hh : res = (.whole n, 0) := by rw [HD.out]; unfold fitI; rw [if_pos hf, hn0]
  have HI : Hid (I64 n) := Lib.hid (by rw [← hn0]; exact hf)
  subst hh
  clear hf hn0
  go_wp2_with fail
  refine (numberE_ok n _).mono ?_
  rintro et wt ⟨rfl, hxt⟩
  have HXt := Lib.hid hxt
  have HRt := Lib.hid ((hxt.block _ (Blk_lt HR0.out)).trans HR0.out)
  clear hxt
  go_wp2_with (refine wpList_store_cells rfl 28 _ _ rfl (w.heap.size + 2) 0 rfl (wholeC (n)) rfl Tryd.size27 rfl 28 zeroCells.toArray HRt.out (by simp [zeroCells, wholeC]) (whole_one (n)) ?_)
  exact bodyPost_ret (v := .tuple #[.agg (show List Value from (wholeC (n))).toArray, .int .i64 0]) (results_cell Tryd.results21 rfl Tryd.agg27 Tryd.size27 rfl (cellsAt_setRow HRt.out (by simp [zeroCells, wholeC]))) rfl ⟨(wholeC (n)), rfl, whole_at _ _ _ HI.out, (HX0.out.trans HXt.out).setRow (by omega) _⟩
set_option maxRecDepth 100000 in
set_option maxHeartbeats 4000000 in
theorem two_21 {q : Req} {c : List Ent} (S : Nat → Prop) (a b : Val) (g : Nat) (w : World) (ca cb : List Value) (hS : ∀ b, S b → b < w.heap.size) (hr : Rk q c w g) (ha : Val.At S w a ca) (hb : Val.At S w b cb) :
    Calls Tryd.prog 21 #[.pointer (some ⟨g, 0, none⟩), .int .i64 21, .agg ca.toArray, .agg cb.toArray] w (ValErrIn S (twoV c 21 a b).1 (twoV c 21 a b).2 w) := by
  obtain ⟨ak, ab, an, as', at', au, ai, am⟩ := a
  obtain ⟨aA, ac, aB, ad, rfl⟩ := ha.opened
  obtain ⟨bk, bb, bn, bs, bt, bu, bi, bm⟩ := b
  obtain ⟨bA, bc, bB, bd, rfl⟩ := hb.opened
  have HS := Lib.hid hS
  have HVa := Lib.hid ha
  have HVb := Lib.hid hb
  have HRk := Lib.hid hr
  obtain ⟨res, hres⟩ : ∃ res, twoV c 21 (Val.mk ak ab an as' at' au ai am) (Val.mk bk bb bn bs bt bu bi bm) = res := ⟨_, rfl⟩
  rw [hres]
  obtain ⟨p0, p1, p2, ps, px⟩ := heapA3 w (.cells #[.int .i64 ak, .bool ab, .int .i64 an, .string as', .string at', .string au, .slice aA ai.length ac, .slice aB am.length ad] 28) (.cells #[.int .i64 bk, .bool bb, .int .i64 bn, .string bs, .string bt, .string bu, .slice bA bi.length bc, .slice bB bm.length bd] 28) (.cells zeroCells.toArray 28)
  have HA0 := Lib.hid p0
  have HB0 := Lib.hid p1
  have HR0 := Lib.hid p2
  have HX0 := Lib.hid px
  clear p0 p1 p2 ps px
  have HSW := Lib.hid (show ∀ b, S b → b < (((w.alloc (.cells #[.int .i64 ak, .bool ab, .int .i64 an, .string as', .string at', .string au, .slice aA ai.length ac, .slice aB am.length ad] 28)).alloc (.cells #[.int .i64 bk, .bool bb, .int .i64 bn, .string bs, .string bt, .string bu, .slice bA bi.length bc, .slice bB bm.length bd] 28)).alloc (.cells zeroCells.toArray 28)).heap.size from fun b hb => Nat.lt_of_lt_of_le (HS.out b hb) HX0.out.size)
  have Hva := Lib.hid (Val.At.alike (Alike.of_ext HX0.out HS.out) _ _ HVa.out)
  have Hvb := Lib.hid (Val.At.alike (Alike.of_ext HX0.out HS.out) _ _ HVb.out)
  have HD : Hid ((setsV 21 (Val.mk ak ab an as' at' au ai am) (Val.mk bk bb bn bs bt bu bi bm)) = res) := Lib.hid (by rw [← hres]; simp [twoV])
  clear hS hr ha hb hres
  have HC := Lib.hid (setsE_ok S 21 (Val.mk ak ab an as' at' au ai am) (Val.mk bk bb bn bs bt bu bi bm) (((w.alloc (.cells #[.int .i64 ak, .bool ab, .int .i64 an, .string as', .string at', .string au, .slice aA ai.length ac, .slice aB am.length ad] 28)).alloc (.cells #[.int .i64 bk, .bool bb, .int .i64 bn, .string bs, .string bt, .string bu, .slice bA bi.length bc, .slice bB bm.length bd] 28)).alloc (.cells zeroCells.toArray 28)) [.int .i64 ak, .bool ab, .int .i64 an, .string as', .string at', .string au, .slice aA ai.length ac, .slice aB am.length ad] [.int .i64 bk, .bool bb, .int .i64 bn, .string bs, .string bt, .string bu, .slice bA bi.length bc, .slice bB bm.length bd] HSW.out Hva.out Hvb.out)
  rw [HD.out] at HC
  go_enter Tryd.func21, Tryd.ntmps21
  go_wp2_with (first | refine wpList_load_cells rfl 28 _ rfl (w.heap.size) 0 rfl Tryd.agg27 Tryd.size27 (cs := [.int .i64 ak, .bool ab, .int .i64 an, .string as', .string at', .string au, .slice aA ai.length ac, .slice aB am.length ad]) rfl (cells_of_row HA0.out) ?_ | refine wpList_load_cells rfl 28 _ rfl (w.heap.size + 1) 0 rfl Tryd.agg27 Tryd.size27 (cs := [.int .i64 bk, .bool bb, .int .i64 bn, .string bs, .string bt, .string bu, .slice bA bi.length bc, .slice bB bm.length bd]) rfl (cells_of_row HB0.out) ?_)
  refine HC.out.mono ?_
  rintro e9 w9 ⟨cv, rfl, hv, hx9⟩
  obtain ⟨z, ez⟩ := res
  obtain ⟨zk, zb, zn, zs, zt, zu, zi, zm⟩ := z
  obtain ⟨zA, zc, zB, zd, rfl⟩ := hv.opened
  have HX9 := Lib.hid (HX0.out.trans hx9)
  have HR9 := Lib.hid ((hx9.block _ (Blk_lt HR0.out)).trans HR0.out)
  have HV9 : Hid (Val.At (fun b => S b ∨ Fresh (w.heap.size + 3) w9 b) w9 (Val.mk zk zb zn zs zt zu zi zm) [.int .i64 zk, .bool zb, .int .i64 zn, .string zs, .string zt, .string zu, .slice zA zi.length zc, .slice zB zm.length zd]) := Lib.hid (hv.mono fun b hb => hb.imp id fun h => ⟨Nat.le_trans (by simp) h.1, h.2⟩)
  clear hv hx9
  go_wp2_with (refine wpList_store_cells rfl 28 _ _ rfl (w.heap.size + 2) 0 rfl [.int .i64 zk, .bool zb, .int .i64 zn, .string zs, .string zt, .string zu, .slice zA zi.length zc, .slice zB zm.length zd] rfl Tryd.size27 rfl 28 zeroCells.toArray HR9.out (by simp [zeroCells]) HV9.out.one ?_)
  exact bodyPost_ret (v := .tuple #[.agg (show List Value from [.int .i64 zk, .bool zb, .int .i64 zn, .string zs, .string zt, .string zu, .slice zA zi.length zc, .slice zB zm.length zd]).toArray, .int .i64 ez]) (results_cell Tryd.results21 rfl Tryd.agg27 Tryd.size27 rfl (cellsAt_setRow HR9.out (by simp [zeroCells]))) rfl ⟨[.int .i64 zk, .bool zb, .int .i64 zn, .string zs, .string zt, .string zu, .slice zA zi.length zc, .slice zB zm.length zd], rfl, ret_in HV9.out HS.out (by omega) (Ext.refl w9) (by omega) HX9.out.size _, HX9.out.setRow (by omega) _⟩
set_option maxRecDepth 100000 in
set_option maxHeartbeats 4000000 in
theorem two_22 {q : Req} {c : List Ent} (S : Nat → Prop) (a b : Val) (g : Nat) (w : World) (ca cb : List Value) (hS : ∀ b, S b → b < w.heap.size) (hr : Rk q c w g) (ha : Val.At S w a ca) (hb : Val.At S w b cb) :
    Calls Tryd.prog 21 #[.pointer (some ⟨g, 0, none⟩), .int .i64 22, .agg ca.toArray, .agg cb.toArray] w (ValErrIn S (twoV c 22 a b).1 (twoV c 22 a b).2 w) := by
  obtain ⟨ak, ab, an, as', at', au, ai, am⟩ := a
  obtain ⟨aA, ac, aB, ad, rfl⟩ := ha.opened
  obtain ⟨bk, bb, bn, bs, bt, bu, bi, bm⟩ := b
  obtain ⟨bA, bc, bB, bd, rfl⟩ := hb.opened
  have HS := Lib.hid hS
  have HVa := Lib.hid ha
  have HVb := Lib.hid hb
  have HRk := Lib.hid hr
  obtain ⟨res, hres⟩ : ∃ res, twoV c 22 (Val.mk ak ab an as' at' au ai am) (Val.mk bk bb bn bs bt bu bi bm) = res := ⟨_, rfl⟩
  rw [hres]
  obtain ⟨p0, p1, p2, ps, px⟩ := heapA3 w (.cells #[.int .i64 ak, .bool ab, .int .i64 an, .string as', .string at', .string au, .slice aA ai.length ac, .slice aB am.length ad] 28) (.cells #[.int .i64 bk, .bool bb, .int .i64 bn, .string bs, .string bt, .string bu, .slice bA bi.length bc, .slice bB bm.length bd] 28) (.cells zeroCells.toArray 28)
  have HA0 := Lib.hid p0
  have HB0 := Lib.hid p1
  have HR0 := Lib.hid p2
  have HX0 := Lib.hid px
  clear p0 p1 p2 ps px
  have HSW := Lib.hid (show ∀ b, S b → b < (((w.alloc (.cells #[.int .i64 ak, .bool ab, .int .i64 an, .string as', .string at', .string au, .slice aA ai.length ac, .slice aB am.length ad] 28)).alloc (.cells #[.int .i64 bk, .bool bb, .int .i64 bn, .string bs, .string bt, .string bu, .slice bA bi.length bc, .slice bB bm.length bd] 28)).alloc (.cells zeroCells.toArray 28)).heap.size from fun b hb => Nat.lt_of_lt_of_le (HS.out b hb) HX0.out.size)
  have Hva := Lib.hid (Val.At.alike (Alike.of_ext HX0.out HS.out) _ _ HVa.out)
  have Hvb := Lib.hid (Val.At.alike (Alike.of_ext HX0.out HS.out) _ _ HVb.out)
  have HD : Hid ((setsV 22 (Val.mk ak ab an as' at' au ai am) (Val.mk bk bb bn bs bt bu bi bm)) = res) := Lib.hid (by rw [← hres]; simp [twoV])
  clear hS hr ha hb hres
  have HC := Lib.hid (setsE_ok S 22 (Val.mk ak ab an as' at' au ai am) (Val.mk bk bb bn bs bt bu bi bm) (((w.alloc (.cells #[.int .i64 ak, .bool ab, .int .i64 an, .string as', .string at', .string au, .slice aA ai.length ac, .slice aB am.length ad] 28)).alloc (.cells #[.int .i64 bk, .bool bb, .int .i64 bn, .string bs, .string bt, .string bu, .slice bA bi.length bc, .slice bB bm.length bd] 28)).alloc (.cells zeroCells.toArray 28)) [.int .i64 ak, .bool ab, .int .i64 an, .string as', .string at', .string au, .slice aA ai.length ac, .slice aB am.length ad] [.int .i64 bk, .bool bb, .int .i64 bn, .string bs, .string bt, .string bu, .slice bA bi.length bc, .slice bB bm.length bd] HSW.out Hva.out Hvb.out)
  rw [HD.out] at HC
  go_enter Tryd.func21, Tryd.ntmps21
  go_wp2_with (first | refine wpList_load_cells rfl 28 _ rfl (w.heap.size) 0 rfl Tryd.agg27 Tryd.size27 (cs := [.int .i64 ak, .bool ab, .int .i64 an, .string as', .string at', .string au, .slice aA ai.length ac, .slice aB am.length ad]) rfl (cells_of_row HA0.out) ?_ | refine wpList_load_cells rfl 28 _ rfl (w.heap.size + 1) 0 rfl Tryd.agg27 Tryd.size27 (cs := [.int .i64 bk, .bool bb, .int .i64 bn, .string bs, .string bt, .string bu, .slice bA bi.length bc, .slice bB bm.length bd]) rfl (cells_of_row HB0.out) ?_)
  refine HC.out.mono ?_
  rintro e9 w9 ⟨cv, rfl, hv, hx9⟩
  obtain ⟨z, ez⟩ := res
  obtain ⟨zk, zb, zn, zs, zt, zu, zi, zm⟩ := z
  obtain ⟨zA, zc, zB, zd, rfl⟩ := hv.opened
  have HX9 := Lib.hid (HX0.out.trans hx9)
  have HR9 := Lib.hid ((hx9.block _ (Blk_lt HR0.out)).trans HR0.out)
  have HV9 : Hid (Val.At (fun b => S b ∨ Fresh (w.heap.size + 3) w9 b) w9 (Val.mk zk zb zn zs zt zu zi zm) [.int .i64 zk, .bool zb, .int .i64 zn, .string zs, .string zt, .string zu, .slice zA zi.length zc, .slice zB zm.length zd]) := Lib.hid (hv.mono fun b hb => hb.imp id fun h => ⟨Nat.le_trans (by simp) h.1, h.2⟩)
  clear hv hx9
  go_wp2_with (refine wpList_store_cells rfl 28 _ _ rfl (w.heap.size + 2) 0 rfl [.int .i64 zk, .bool zb, .int .i64 zn, .string zs, .string zt, .string zu, .slice zA zi.length zc, .slice zB zm.length zd] rfl Tryd.size27 rfl 28 zeroCells.toArray HR9.out (by simp [zeroCells]) HV9.out.one ?_)
  exact bodyPost_ret (v := .tuple #[.agg (show List Value from [.int .i64 zk, .bool zb, .int .i64 zn, .string zs, .string zt, .string zu, .slice zA zi.length zc, .slice zB zm.length zd]).toArray, .int .i64 ez]) (results_cell Tryd.results21 rfl Tryd.agg27 Tryd.size27 rfl (cellsAt_setRow HR9.out (by simp [zeroCells]))) rfl ⟨[.int .i64 zk, .bool zb, .int .i64 zn, .string zs, .string zt, .string zu, .slice zA zi.length zc, .slice zB zm.length zd], rfl, ret_in HV9.out HS.out (by omega) (Ext.refl w9) (by omega) HX9.out.size _, HX9.out.setRow (by omega) _⟩
set_option maxRecDepth 100000 in
set_option maxHeartbeats 4000000 in
theorem two_23 {q : Req} {c : List Ent} (S : Nat → Prop) (a b : Val) (g : Nat) (w : World) (ca cb : List Value) (hS : ∀ b, S b → b < w.heap.size) (hr : Rk q c w g) (ha : Val.At S w a ca) (hb : Val.At S w b cb) :
    Calls Tryd.prog 21 #[.pointer (some ⟨g, 0, none⟩), .int .i64 23, .agg ca.toArray, .agg cb.toArray] w (ValErrIn S (twoV c 23 a b).1 (twoV c 23 a b).2 w) := by
  obtain ⟨ak, ab, an, as', at', au, ai, am⟩ := a
  obtain ⟨aA, ac, aB, ad, rfl⟩ := ha.opened
  obtain ⟨bk, bb, bn, bs, bt, bu, bi, bm⟩ := b
  obtain ⟨bA, bc, bB, bd, rfl⟩ := hb.opened
  have HS := Lib.hid hS
  have HVa := Lib.hid ha
  have HVb := Lib.hid hb
  have HRk := Lib.hid hr
  obtain ⟨res, hres⟩ : ∃ res, twoV c 23 (Val.mk ak ab an as' at' au ai am) (Val.mk bk bb bn bs bt bu bi bm) = res := ⟨_, rfl⟩
  rw [hres]
  obtain ⟨p0, p1, p2, ps, px⟩ := heapA3 w (.cells #[.int .i64 ak, .bool ab, .int .i64 an, .string as', .string at', .string au, .slice aA ai.length ac, .slice aB am.length ad] 28) (.cells #[.int .i64 bk, .bool bb, .int .i64 bn, .string bs, .string bt, .string bu, .slice bA bi.length bc, .slice bB bm.length bd] 28) (.cells zeroCells.toArray 28)
  have HA0 := Lib.hid p0
  have HB0 := Lib.hid p1
  have HR0 := Lib.hid p2
  have HX0 := Lib.hid px
  clear p0 p1 p2 ps px
  have HSW := Lib.hid (show ∀ b, S b → b < (((w.alloc (.cells #[.int .i64 ak, .bool ab, .int .i64 an, .string as', .string at', .string au, .slice aA ai.length ac, .slice aB am.length ad] 28)).alloc (.cells #[.int .i64 bk, .bool bb, .int .i64 bn, .string bs, .string bt, .string bu, .slice bA bi.length bc, .slice bB bm.length bd] 28)).alloc (.cells zeroCells.toArray 28)).heap.size from fun b hb => Nat.lt_of_lt_of_le (HS.out b hb) HX0.out.size)
  have Hva := Lib.hid (Val.At.alike (Alike.of_ext HX0.out HS.out) _ _ HVa.out)
  have Hvb := Lib.hid (Val.At.alike (Alike.of_ext HX0.out HS.out) _ _ HVb.out)
  have HD : Hid ((setsV 23 (Val.mk ak ab an as' at' au ai am) (Val.mk bk bb bn bs bt bu bi bm)) = res) := Lib.hid (by rw [← hres]; simp [twoV])
  clear hS hr ha hb hres
  have HC := Lib.hid (setsE_ok S 23 (Val.mk ak ab an as' at' au ai am) (Val.mk bk bb bn bs bt bu bi bm) (((w.alloc (.cells #[.int .i64 ak, .bool ab, .int .i64 an, .string as', .string at', .string au, .slice aA ai.length ac, .slice aB am.length ad] 28)).alloc (.cells #[.int .i64 bk, .bool bb, .int .i64 bn, .string bs, .string bt, .string bu, .slice bA bi.length bc, .slice bB bm.length bd] 28)).alloc (.cells zeroCells.toArray 28)) [.int .i64 ak, .bool ab, .int .i64 an, .string as', .string at', .string au, .slice aA ai.length ac, .slice aB am.length ad] [.int .i64 bk, .bool bb, .int .i64 bn, .string bs, .string bt, .string bu, .slice bA bi.length bc, .slice bB bm.length bd] HSW.out Hva.out Hvb.out)
  rw [HD.out] at HC
  go_enter Tryd.func21, Tryd.ntmps21
  go_wp2_with (first | refine wpList_load_cells rfl 28 _ rfl (w.heap.size) 0 rfl Tryd.agg27 Tryd.size27 (cs := [.int .i64 ak, .bool ab, .int .i64 an, .string as', .string at', .string au, .slice aA ai.length ac, .slice aB am.length ad]) rfl (cells_of_row HA0.out) ?_ | refine wpList_load_cells rfl 28 _ rfl (w.heap.size + 1) 0 rfl Tryd.agg27 Tryd.size27 (cs := [.int .i64 bk, .bool bb, .int .i64 bn, .string bs, .string bt, .string bu, .slice bA bi.length bc, .slice bB bm.length bd]) rfl (cells_of_row HB0.out) ?_)
  refine HC.out.mono ?_
  rintro e9 w9 ⟨cv, rfl, hv, hx9⟩
  obtain ⟨z, ez⟩ := res
  obtain ⟨zk, zb, zn, zs, zt, zu, zi, zm⟩ := z
  obtain ⟨zA, zc, zB, zd, rfl⟩ := hv.opened
  have HX9 := Lib.hid (HX0.out.trans hx9)
  have HR9 := Lib.hid ((hx9.block _ (Blk_lt HR0.out)).trans HR0.out)
  have HV9 : Hid (Val.At (fun b => S b ∨ Fresh (w.heap.size + 3) w9 b) w9 (Val.mk zk zb zn zs zt zu zi zm) [.int .i64 zk, .bool zb, .int .i64 zn, .string zs, .string zt, .string zu, .slice zA zi.length zc, .slice zB zm.length zd]) := Lib.hid (hv.mono fun b hb => hb.imp id fun h => ⟨Nat.le_trans (by simp) h.1, h.2⟩)
  clear hv hx9
  go_wp2_with (refine wpList_store_cells rfl 28 _ _ rfl (w.heap.size + 2) 0 rfl [.int .i64 zk, .bool zb, .int .i64 zn, .string zs, .string zt, .string zu, .slice zA zi.length zc, .slice zB zm.length zd] rfl Tryd.size27 rfl 28 zeroCells.toArray HR9.out (by simp [zeroCells]) HV9.out.one ?_)
  exact bodyPost_ret (v := .tuple #[.agg (show List Value from [.int .i64 zk, .bool zb, .int .i64 zn, .string zs, .string zt, .string zu, .slice zA zi.length zc, .slice zB zm.length zd]).toArray, .int .i64 ez]) (results_cell Tryd.results21 rfl Tryd.agg27 Tryd.size27 rfl (cellsAt_setRow HR9.out (by simp [zeroCells]))) rfl ⟨[.int .i64 zk, .bool zb, .int .i64 zn, .string zs, .string zt, .string zu, .slice zA zi.length zc, .slice zB zm.length zd], rfl, ret_in HV9.out HS.out (by omega) (Ext.refl w9) (by omega) HX9.out.size _, HX9.out.setRow (by omega) _⟩
end Go.Proofs.YtebfoimbdljbmaaDoor
