/-
  What asks for one value, as the program's evaluation has it. The conditions: what is handed in lies in memory as it should.
-/
import Derived.Test.YtebfoimbdljbmaaGreatDoorEvIQ
namespace Go.Proofs.YtebfoimbdljbmaaGreatDoor
open Go.RowKit
theorem bytes_dec (a b : ByteArray) : decide (a = b) = (a.toList == b.toList) := by
  by_cases h : a = b
  · simp [h]
  · rw [decide_eq_false h, Eq.comm, beq_eq_false_iff_ne]
    exact fun e => h (toList_inj e)
set_option maxRecDepth 100000 in
set_option maxHeartbeats 4000000 in
theorem one_6 {q : Req} {c : List Ent} (S : Nat → Prop) (e : Exp) (a : Val) (g : Nat) (w : World) (cs ca : List Value) (heo : e.op = 6) (hS : ∀ b, S b → b < w.heap.size) (hr : Rk q c w g) (he : InX w e cs) (ha : Val.At S w a ca) :
    Calls Tryz.prog 62 #[.pointer (some ⟨g, 0, none⟩), .agg cs.toArray, .agg ca.toArray] w (ValErrIn S (oneV c 6 e.name a).1 (oneV c 6 e.name a).2 w) := by
  have HX_e := Lib.hid he
  obtain ⟨eo, ev, en, eks, ens⟩ := e
  obtain ⟨lk, lb, ln, ls, lt, lu, lA, ll, lc, lB, lm, ld, eK, ec, eN, ed, hcs, _, hev, hek, hen⟩ := Exp.At.shape he
  obtain rfl : cs = [.int .i64 eo, .int .i64 lk, .bool lb, .int .i64 ln, .string ls, .string lt, .string lu, .slice lA ll lc, .slice lB lm ld, .string en, .slice eK eks.length ec, .slice eN ens.length ed] := hcs
  have hev : InW w ev [.int .i64 lk, .bool lb, .int .i64 ln, .string ls, .string lt, .string lu, .slice lA ll lc, .slice lB lm ld] := hev
  have hek : expR.RowsAt (fun b => b < w.heap.size) w eks (.slice eK eks.length ec) := hek
  have hen : StrsAt (fun b => b < w.heap.size) w ens (.slice eN ens.length ed) := hen
  replace heo : eo = 6 := heo
  subst heo
  obtain ⟨ak, ab, an, as', at', au, ai, am⟩ := a
  obtain ⟨aA, ac, aB, ad, rfl⟩ := ha.opened
  show Calls _ _ _ _ (ValErrIn S (oneV c 6 en (Val.mk ak ab an as' at' au ai am)).1 (oneV c 6 en (Val.mk ak ab an as' at' au ai am)).2 w)
  have HS := Lib.hid hS
  have HVa := Lib.hid ha
  have HRk := Lib.hid hr
  obtain ⟨res, hres⟩ : ∃ res, oneV c 6 en (Val.mk ak ab an as' at' au ai am) = res := ⟨_, rfl⟩
  rw [hres]
  by_cases hk : ak = 1
  case neg =>
    have ek : (ak == 1) = false := by simpa using hk
    have hh : res = (.zero, 30) := by rw [← hres]; simp [oneV, Val.kind, hk, no]
    subst hh
    obtain ⟨p0, p1, p2, ps, px⟩ := heapA3 w (.cells #[.int .i64 6, .int .i64 lk, .bool lb, .int .i64 ln, .string ls, .string lt, .string lu, .slice lA ll lc, .slice lB lm ld, .string en, .slice eK eks.length ec, .slice eN ens.length ed] 30) (.cells #[.int .i64 ak, .bool ab, .int .i64 an, .string as', .string at', .string au, .slice aA ai.length ac, .slice aB am.length ad] 27) (.cells zeroCells.toArray 27)
    have HE0 := Lib.hid p0
    have HA0 := Lib.hid p1
    have HR0 := Lib.hid p2
    have HX0 := Lib.hid px
    clear p0 p1 p2 ps px
    have HSW := Lib.hid (show ∀ b, S b → b < (((w.alloc (.cells #[.int .i64 6, .int .i64 lk, .bool lb, .int .i64 ln, .string ls, .string lt, .string lu, .slice lA ll lc, .slice lB lm ld, .string en, .slice eK eks.length ec, .slice eN ens.length ed] 30)).alloc (.cells #[.int .i64 ak, .bool ab, .int .i64 an, .string as', .string at', .string au, .slice aA ai.length ac, .slice aB am.length ad] 27)).alloc (.cells zeroCells.toArray 27)).heap.size from fun b hb => Nat.lt_of_lt_of_le (HS.out b hb) HX0.out.size)
    have Hva := Lib.hid (Val.At.alike (Alike.of_ext HX0.out HS.out) _ _ HVa.out)

    clear hS hr ha he hev hek hen hres hk
    go_enter Tryz.func62, Tryz.ntmps62
    go_wp2_with (refine wpList_store_cells rfl 27 _ _ rfl (w.heap.size + 2) 0 rfl zeroCells rfl Tryz.size27 rfl 27 zeroCells.toArray HR0.out (by simp [zeroCells]) zero_one ?_)
    exact bodyPost_ret (v := .tuple #[.agg (show List Value from zeroCells).toArray, .int .i64 30]) (results_cell Tryz.results62 rfl Tryz.agg27 Tryz.size27 rfl (cellsAt_setRow HR0.out (by simp [zeroCells]))) rfl ⟨zeroCells, rfl, Val.zero_at _ _, HX0.out.setRow (by omega) _⟩
  subst hk
  obtain ⟨p0, p1, p2, ps, px⟩ := heapA3 w (.cells #[.int .i64 6, .int .i64 lk, .bool lb, .int .i64 ln, .string ls, .string lt, .string lu, .slice lA ll lc, .slice lB lm ld, .string en, .slice eK eks.length ec, .slice eN ens.length ed] 30) (.cells #[.int .i64 1, .bool ab, .int .i64 an, .string as', .string at', .string au, .slice aA ai.length ac, .slice aB am.length ad] 27) (.cells zeroCells.toArray 27)
  have HE0 := Lib.hid p0
  have HA0 := Lib.hid p1
  have HR0 := Lib.hid p2
  have HX0 := Lib.hid px
  clear p0 p1 p2 ps px
  have HSW := Lib.hid (show ∀ b, S b → b < (((w.alloc (.cells #[.int .i64 6, .int .i64 lk, .bool lb, .int .i64 ln, .string ls, .string lt, .string lu, .slice lA ll lc, .slice lB lm ld, .string en, .slice eK eks.length ec, .slice eN ens.length ed] 30)).alloc (.cells #[.int .i64 1, .bool ab, .int .i64 an, .string as', .string at', .string au, .slice aA ai.length ac, .slice aB am.length ad] 27)).alloc (.cells zeroCells.toArray 27)).heap.size from fun b hb => Nat.lt_of_lt_of_le (HS.out b hb) HX0.out.size)
  have Hva := Lib.hid (Val.At.alike (Alike.of_ext HX0.out HS.out) _ _ HVa.out)

  have hh : res = yes (!ab) := by rw [← hres]; simp [oneV, Val.kind, Val.bo]
  subst hh
  clear hS hr ha he hev hek hen hres
  go_enter Tryz.func62, Tryz.ntmps62
  go_wp2_with fail
  refine (truthE_ok (!ab) _).mono ?_
  rintro et wt ⟨rfl, hxt⟩
  have HXt := Lib.hid hxt
  have HRt := Lib.hid ((hxt.block _ (Blk_lt HR0.out)).trans HR0.out)
  clear hxt
  go_wp2_with (refine wpList_store_cells rfl 27 _ _ rfl (w.heap.size + 2) 0 rfl (truthC ((!ab))) rfl Tryz.size27 rfl 27 zeroCells.toArray HRt.out (by simp [zeroCells, truthC]) (truth_one ((!ab))) ?_)
  exact bodyPost_ret (v := .tuple #[.agg (show List Value from (truthC ((!ab)))).toArray, .int .i64 0]) (results_cell Tryz.results62 rfl Tryz.agg27 Tryz.size27 rfl (cellsAt_setRow HRt.out (by simp [zeroCells, truthC]))) rfl ⟨(truthC ((!ab))), rfl, truth_at _ _ _, (HX0.out.trans HXt.out).setRow (by omega) _⟩
set_option maxRecDepth 100000 in
set_option maxHeartbeats 4000000 in
theorem one_14 {q : Req} {c : List Ent} (S : Nat → Prop) (e : Exp) (a : Val) (g : Nat) (w : World) (cs ca : List Value) (heo : e.op = 14) (hS : ∀ b, S b → b < w.heap.size) (hr : Rk q c w g) (he : InX w e cs) (ha : Val.At S w a ca) :
    Calls Tryz.prog 62 #[.pointer (some ⟨g, 0, none⟩), .agg cs.toArray, .agg ca.toArray] w (ValErrIn S (oneV c 14 e.name a).1 (oneV c 14 e.name a).2 w) := by
  have HX_e := Lib.hid he
  obtain ⟨eo, ev, en, eks, ens⟩ := e
  obtain ⟨lk, lb, ln, ls, lt, lu, lA, ll, lc, lB, lm, ld, eK, ec, eN, ed, hcs, _, hev, hek, hen⟩ := Exp.At.shape he
  obtain rfl : cs = [.int .i64 eo, .int .i64 lk, .bool lb, .int .i64 ln, .string ls, .string lt, .string lu, .slice lA ll lc, .slice lB lm ld, .string en, .slice eK eks.length ec, .slice eN ens.length ed] := hcs
  have hev : InW w ev [.int .i64 lk, .bool lb, .int .i64 ln, .string ls, .string lt, .string lu, .slice lA ll lc, .slice lB lm ld] := hev
  have hek : expR.RowsAt (fun b => b < w.heap.size) w eks (.slice eK eks.length ec) := hek
  have hen : StrsAt (fun b => b < w.heap.size) w ens (.slice eN ens.length ed) := hen
  replace heo : eo = 14 := heo
  subst heo
  obtain ⟨ak, ab, an, as', at', au, ai, am⟩ := a
  obtain ⟨aA, ac, aB, ad, rfl⟩ := ha.opened
  show Calls _ _ _ _ (ValErrIn S (oneV c 14 en (Val.mk ak ab an as' at' au ai am)).1 (oneV c 14 en (Val.mk ak ab an as' at' au ai am)).2 w)
  have HS := Lib.hid hS
  have HVa := Lib.hid ha
  have HRk := Lib.hid hr
  obtain ⟨res, hres⟩ : ∃ res, oneV c 14 en (Val.mk ak ab an as' at' au ai am) = res := ⟨_, rfl⟩
  rw [hres]
  by_cases hk : ak = 2
  case neg =>
    have ek : (ak == 2) = false := by simpa using hk
    have hh : res = (.zero, 30) := by rw [← hres]; simp [oneV, Val.kind, hk, no]
    subst hh
    obtain ⟨p0, p1, p2, ps, px⟩ := heapA3 w (.cells #[.int .i64 14, .int .i64 lk, .bool lb, .int .i64 ln, .string ls, .string lt, .string lu, .slice lA ll lc, .slice lB lm ld, .string en, .slice eK eks.length ec, .slice eN ens.length ed] 30) (.cells #[.int .i64 ak, .bool ab, .int .i64 an, .string as', .string at', .string au, .slice aA ai.length ac, .slice aB am.length ad] 27) (.cells zeroCells.toArray 27)
    have HE0 := Lib.hid p0
    have HA0 := Lib.hid p1
    have HR0 := Lib.hid p2
    have HX0 := Lib.hid px
    clear p0 p1 p2 ps px
    have HSW := Lib.hid (show ∀ b, S b → b < (((w.alloc (.cells #[.int .i64 14, .int .i64 lk, .bool lb, .int .i64 ln, .string ls, .string lt, .string lu, .slice lA ll lc, .slice lB lm ld, .string en, .slice eK eks.length ec, .slice eN ens.length ed] 30)).alloc (.cells #[.int .i64 ak, .bool ab, .int .i64 an, .string as', .string at', .string au, .slice aA ai.length ac, .slice aB am.length ad] 27)).alloc (.cells zeroCells.toArray 27)).heap.size from fun b hb => Nat.lt_of_lt_of_le (HS.out b hb) HX0.out.size)
    have Hva := Lib.hid (Val.At.alike (Alike.of_ext HX0.out HS.out) _ _ HVa.out)

    clear hS hr ha he hev hek hen hres hk
    go_enter Tryz.func62, Tryz.ntmps62
    go_wp2_with (refine wpList_store_cells rfl 27 _ _ rfl (w.heap.size + 2) 0 rfl zeroCells rfl Tryz.size27 rfl 27 zeroCells.toArray HR0.out (by simp [zeroCells]) zero_one ?_)
    exact bodyPost_ret (v := .tuple #[.agg (show List Value from zeroCells).toArray, .int .i64 30]) (results_cell Tryz.results62 rfl Tryz.agg27 Tryz.size27 rfl (cellsAt_setRow HR0.out (by simp [zeroCells]))) rfl ⟨zeroCells, rfl, Val.zero_at _ _, HX0.out.setRow (by omega) _⟩
  subst hk
  obtain ⟨p0, p1, p2, ps, px⟩ := heapA3 w (.cells #[.int .i64 14, .int .i64 lk, .bool lb, .int .i64 ln, .string ls, .string lt, .string lu, .slice lA ll lc, .slice lB lm ld, .string en, .slice eK eks.length ec, .slice eN ens.length ed] 30) (.cells #[.int .i64 2, .bool ab, .int .i64 an, .string as', .string at', .string au, .slice aA ai.length ac, .slice aB am.length ad] 27) (.cells zeroCells.toArray 27)
  have HE0 := Lib.hid p0
  have HA0 := Lib.hid p1
  have HR0 := Lib.hid p2
  have HX0 := Lib.hid px
  clear p0 p1 p2 ps px
  have HSW := Lib.hid (show ∀ b, S b → b < (((w.alloc (.cells #[.int .i64 14, .int .i64 lk, .bool lb, .int .i64 ln, .string ls, .string lt, .string lu, .slice lA ll lc, .slice lB lm ld, .string en, .slice eK eks.length ec, .slice eN ens.length ed] 30)).alloc (.cells #[.int .i64 2, .bool ab, .int .i64 an, .string as', .string at', .string au, .slice aA ai.length ac, .slice aB am.length ad] 27)).alloc (.cells zeroCells.toArray 27)).heap.size from fun b hb => Nat.lt_of_lt_of_le (HS.out b hb) HX0.out.size)
  have Hva := Lib.hid (Val.At.alike (Alike.of_ext HX0.out HS.out) _ _ HVa.out)

  have hc := neg_ok an ha.bounds.2.1 (((w.alloc (.cells #[.int .i64 14, .int .i64 lk, .bool lb, .int .i64 ln, .string ls, .string lt, .string lu, .slice lA ll lc, .slice lB lm ld, .string en, .slice eK eks.length ec, .slice eN ens.length ed] 30)).alloc (.cells #[.int .i64 2, .bool ab, .int .i64 an, .string as', .string at', .string au, .slice aA ai.length ac, .slice aB am.length ad] 27)).alloc (.cells zeroCells.toArray 27))
  unfold FitAns at hc
  obtain ⟨⟨n, ne⟩, hn⟩ : ∃ r, fitN (-an) = r := ⟨_, rfl⟩
  rw [hn] at hc
  have HC := Lib.hid hc
  have HN := Lib.hid hn
  have HD : Hid (res = fitI (-an)) := Lib.hid (by rw [← hres]; simp [oneV, Val.kind, Val.num])
  clear hS hr ha he hev hek hen hres hc hn
  go_enter Tryz.func62, Tryz.ntmps62
  go_wp2_with fail
  refine HC.out.mono ?_
  rintro e1 w1 ⟨rfl, rfl⟩
  by_cases hf : -9223372036854775808 ≤ -an ∧ -an ≤ 9223372036854775807
  case neg =>
    obtain ⟨rfl, rfl⟩ : n = 0 ∧ ne = 14 := by have := HN.out; unfold fitN at this; rw [if_neg hf] at this; exact ⟨by injection this with h1 h2; exact h1.symm, by injection this with h1 h2; exact h2.symm⟩
    have hh : res = (.zero, 14) := by rw [HD.out]; unfold fitI; rw [if_neg hf]; rfl
    subst hh
    clear hf
    go_wp2_with (refine wpList_store_cells rfl 27 _ _ rfl (w.heap.size + 2) 0 rfl zeroCells rfl Tryz.size27 rfl 27 zeroCells.toArray HR0.out (by simp [zeroCells]) zero_one ?_)
    exact bodyPost_ret (v := .tuple #[.agg (show List Value from zeroCells).toArray, .int .i64 14]) (results_cell Tryz.results62 rfl Tryz.agg27 Tryz.size27 rfl (cellsAt_setRow HR0.out (by simp [zeroCells]))) rfl ⟨zeroCells, rfl, Val.zero_at _ _, HX0.out.setRow (by omega) _⟩
  obtain ⟨hn0, rfl⟩ : -an = n ∧ ne = 0 := by have := HN.out; unfold fitN at this; rw [if_pos hf] at this; exact ⟨by injection this with h1 h2, by injection this with h1 h2; exact h2.symm⟩
  have hh : res = (.whole n, 0) := by rw [HD.out]; unfold fitI; rw [if_pos hf, hn0]
  have HI : Hid (I64 n) := Lib.hid (by rw [← hn0]; exact hf)
  subst hh
  clear hf hn0
  go_wp2_with fail
  refine (numberE_ok n _).mono ?_
  rintro et wt ⟨rfl, hxt⟩
  have HXt := Lib.hid hxt
  have HRt := Lib.hid ((hxt.block _ (Blk_lt HR0.out)).trans HR0.out)
  clear hxt
  go_wp2_with (refine wpList_store_cells rfl 27 _ _ rfl (w.heap.size + 2) 0 rfl (wholeC (n)) rfl Tryz.size27 rfl 27 zeroCells.toArray HRt.out (by simp [zeroCells, wholeC]) (whole_one (n)) ?_)
  exact bodyPost_ret (v := .tuple #[.agg (show List Value from (wholeC (n))).toArray, .int .i64 0]) (results_cell Tryz.results62 rfl Tryz.agg27 Tryz.size27 rfl (cellsAt_setRow HRt.out (by simp [zeroCells, wholeC]))) rfl ⟨(wholeC (n)), rfl, whole_at _ _ _ HI.out, (HX0.out.trans HXt.out).setRow (by omega) _⟩
set_option maxRecDepth 100000 in
set_option maxHeartbeats 4000000 in
theorem one_16 {q : Req} {c : List Ent} (S : Nat → Prop) (e : Exp) (a : Val) (g : Nat) (w : World) (cs ca : List Value) (heo : e.op = 16) (hS : ∀ b, S b → b < w.heap.size) (hr : Rk q c w g) (he : InX w e cs) (ha : Val.At S w a ca) :
    Calls Tryz.prog 62 #[.pointer (some ⟨g, 0, none⟩), .agg cs.toArray, .agg ca.toArray] w (ValErrIn S (oneV c 16 e.name a).1 (oneV c 16 e.name a).2 w) := by
  have HX_e := Lib.hid he
  obtain ⟨eo, ev, en, eks, ens⟩ := e
  obtain ⟨lk, lb, ln, ls, lt, lu, lA, ll, lc, lB, lm, ld, eK, ec, eN, ed, hcs, _, hev, hek, hen⟩ := Exp.At.shape he
  obtain rfl : cs = [.int .i64 eo, .int .i64 lk, .bool lb, .int .i64 ln, .string ls, .string lt, .string lu, .slice lA ll lc, .slice lB lm ld, .string en, .slice eK eks.length ec, .slice eN ens.length ed] := hcs
  have hev : InW w ev [.int .i64 lk, .bool lb, .int .i64 ln, .string ls, .string lt, .string lu, .slice lA ll lc, .slice lB lm ld] := hev
  have hek : expR.RowsAt (fun b => b < w.heap.size) w eks (.slice eK eks.length ec) := hek
  have hen : StrsAt (fun b => b < w.heap.size) w ens (.slice eN ens.length ed) := hen
  replace heo : eo = 16 := heo
  subst heo
  obtain ⟨ak, ab, an, as', at', au, ai, am⟩ := a
  obtain ⟨aA, ac, aB, ad, rfl⟩ := ha.opened
  show Calls _ _ _ _ (ValErrIn S (oneV c 16 en (Val.mk ak ab an as' at' au ai am)).1 (oneV c 16 en (Val.mk ak ab an as' at' au ai am)).2 w)
  have HS := Lib.hid hS
  have HVa := Lib.hid ha
  have HRk := Lib.hid hr
  obtain ⟨res, hres⟩ : ∃ res, oneV c 16 en (Val.mk ak ab an as' at' au ai am) = res := ⟨_, rfl⟩
  rw [hres]
  by_cases hk : ak = 4
  case neg =>
    have ek : (ak == 4) = false := by simpa using hk
    have hh : res = (.zero, 30) := by rw [← hres]; simp [oneV, Val.kind, hk, no]
    subst hh
    obtain ⟨p0, p1, p2, ps, px⟩ := heapA3 w (.cells #[.int .i64 16, .int .i64 lk, .bool lb, .int .i64 ln, .string ls, .string lt, .string lu, .slice lA ll lc, .slice lB lm ld, .string en, .slice eK eks.length ec, .slice eN ens.length ed] 30) (.cells #[.int .i64 ak, .bool ab, .int .i64 an, .string as', .string at', .string au, .slice aA ai.length ac, .slice aB am.length ad] 27) (.cells zeroCells.toArray 27)
    have HE0 := Lib.hid p0
    have HA0 := Lib.hid p1
    have HR0 := Lib.hid p2
    have HX0 := Lib.hid px
    clear p0 p1 p2 ps px
    have HSW := Lib.hid (show ∀ b, S b → b < (((w.alloc (.cells #[.int .i64 16, .int .i64 lk, .bool lb, .int .i64 ln, .string ls, .string lt, .string lu, .slice lA ll lc, .slice lB lm ld, .string en, .slice eK eks.length ec, .slice eN ens.length ed] 30)).alloc (.cells #[.int .i64 ak, .bool ab, .int .i64 an, .string as', .string at', .string au, .slice aA ai.length ac, .slice aB am.length ad] 27)).alloc (.cells zeroCells.toArray 27)).heap.size from fun b hb => Nat.lt_of_lt_of_le (HS.out b hb) HX0.out.size)
    have Hva := Lib.hid (Val.At.alike (Alike.of_ext HX0.out HS.out) _ _ HVa.out)

    clear hS hr ha he hev hek hen hres hk
    go_enter Tryz.func62, Tryz.ntmps62
    go_wp2_with (refine wpList_store_cells rfl 27 _ _ rfl (w.heap.size + 2) 0 rfl zeroCells rfl Tryz.size27 rfl 27 zeroCells.toArray HR0.out (by simp [zeroCells]) zero_one ?_)
    exact bodyPost_ret (v := .tuple #[.agg (show List Value from zeroCells).toArray, .int .i64 30]) (results_cell Tryz.results62 rfl Tryz.agg27 Tryz.size27 rfl (cellsAt_setRow HR0.out (by simp [zeroCells]))) rfl ⟨zeroCells, rfl, Val.zero_at _ _, HX0.out.setRow (by omega) _⟩
  subst hk
  obtain ⟨p0, p1, p2, ps, px⟩ := heapA3 w (.cells #[.int .i64 16, .int .i64 lk, .bool lb, .int .i64 ln, .string ls, .string lt, .string lu, .slice lA ll lc, .slice lB lm ld, .string en, .slice eK eks.length ec, .slice eN ens.length ed] 30) (.cells #[.int .i64 4, .bool ab, .int .i64 an, .string as', .string at', .string au, .slice aA ai.length ac, .slice aB am.length ad] 27) (.cells zeroCells.toArray 27)
  have HE0 := Lib.hid p0
  have HA0 := Lib.hid p1
  have HR0 := Lib.hid p2
  have HX0 := Lib.hid px
  clear p0 p1 p2 ps px
  have HSW := Lib.hid (show ∀ b, S b → b < (((w.alloc (.cells #[.int .i64 16, .int .i64 lk, .bool lb, .int .i64 ln, .string ls, .string lt, .string lu, .slice lA ll lc, .slice lB lm ld, .string en, .slice eK eks.length ec, .slice eN ens.length ed] 30)).alloc (.cells #[.int .i64 4, .bool ab, .int .i64 an, .string as', .string at', .string au, .slice aA ai.length ac, .slice aB am.length ad] 27)).alloc (.cells zeroCells.toArray 27)).heap.size from fun b hb => Nat.lt_of_lt_of_le (HS.out b hb) HX0.out.size)
  have Hva := Lib.hid (Val.At.alike (Alike.of_ext HX0.out HS.out) _ _ HVa.out)

  have hq : decide (at' = en) = (at'.toList == en.toList) := bytes_dec at' en
  obtain ⟨r, hrr⟩ : ∃ r, (at'.toList == en.toList) = r := ⟨_, rfl⟩
  rw [hrr] at hq
  have hh : res = yes r := by rw [← hres, ← hq]; simp [oneV, Val.kind, Val.ut]; rfl
  subst hh
  clear hS hr ha he hev hek hen hres hq
  go_enter Tryz.func62, Tryz.ntmps62
  go_wp2_with fail
  refine (truthE_ok r _).mono ?_
  rintro et wt ⟨rfl, hxt⟩
  have HXt := Lib.hid hxt
  have HRt := Lib.hid ((hxt.block _ (Blk_lt HR0.out)).trans HR0.out)
  clear hxt
  go_wp2_with (refine wpList_store_cells rfl 27 _ _ rfl (w.heap.size + 2) 0 rfl (truthC (r)) rfl Tryz.size27 rfl 27 zeroCells.toArray HRt.out (by simp [zeroCells, truthC]) (truth_one (r)) ?_)
  exact bodyPost_ret (v := .tuple #[.agg (show List Value from (truthC (r))).toArray, .int .i64 0]) (results_cell Tryz.results62 rfl Tryz.agg27 Tryz.size27 rfl (cellsAt_setRow HRt.out (by simp [zeroCells, truthC]))) rfl ⟨(truthC (r)), rfl, truth_at _ _ _, (HX0.out.trans HXt.out).setRow (by omega) _⟩
set_option maxRecDepth 100000 in
set_option maxHeartbeats 4000000 in
theorem one_17 {q : Req} {c : List Ent} (S : Nat → Prop) (e : Exp) (a : Val) (g : Nat) (w : World) (cs ca : List Value) (heo : e.op = 17) (hS : ∀ b, S b → b < w.heap.size) (hr : Rk q c w g) (he : InX w e cs) (ha : Val.At S w a ca) :
    Calls Tryz.prog 62 #[.pointer (some ⟨g, 0, none⟩), .agg cs.toArray, .agg ca.toArray] w (ValErrIn S (oneV c 17 e.name a).1 (oneV c 17 e.name a).2 w) := by
  have HX_e := Lib.hid he
  obtain ⟨eo, ev, en, eks, ens⟩ := e
  obtain ⟨lk, lb, ln, ls, lt, lu, lA, ll, lc, lB, lm, ld, eK, ec, eN, ed, hcs, _, hev, hek, hen⟩ := Exp.At.shape he
  obtain rfl : cs = [.int .i64 eo, .int .i64 lk, .bool lb, .int .i64 ln, .string ls, .string lt, .string lu, .slice lA ll lc, .slice lB lm ld, .string en, .slice eK eks.length ec, .slice eN ens.length ed] := hcs
  have hev : InW w ev [.int .i64 lk, .bool lb, .int .i64 ln, .string ls, .string lt, .string lu, .slice lA ll lc, .slice lB lm ld] := hev
  have hek : expR.RowsAt (fun b => b < w.heap.size) w eks (.slice eK eks.length ec) := hek
  have hen : StrsAt (fun b => b < w.heap.size) w ens (.slice eN ens.length ed) := hen
  replace heo : eo = 17 := heo
  subst heo
  obtain ⟨ak, ab, an, as', at', au, ai, am⟩ := a
  obtain ⟨aA, ac, aB, ad, rfl⟩ := ha.opened
  show Calls _ _ _ _ (ValErrIn S (oneV c 17 en (Val.mk ak ab an as' at' au ai am)).1 (oneV c 17 en (Val.mk ak ab an as' at' au ai am)).2 w)
  have HS := Lib.hid hS
  have HVa := Lib.hid ha
  have HRk := Lib.hid hr
  obtain ⟨res, hres⟩ : ∃ res, oneV c 17 en (Val.mk ak ab an as' at' au ai am) = res := ⟨_, rfl⟩
  rw [hres]
  obtain ⟨p0, p1, p2, ps, px⟩ := heapA3 w (.cells #[.int .i64 17, .int .i64 lk, .bool lb, .int .i64 ln, .string ls, .string lt, .string lu, .slice lA ll lc, .slice lB lm ld, .string en, .slice eK eks.length ec, .slice eN ens.length ed] 30) (.cells #[.int .i64 ak, .bool ab, .int .i64 an, .string as', .string at', .string au, .slice aA ai.length ac, .slice aB am.length ad] 27) (.cells zeroCells.toArray 27)
  have HE0 := Lib.hid p0
  have HA0 := Lib.hid p1
  have HR0 := Lib.hid p2
  have HX0 := Lib.hid px
  clear p0 p1 p2 ps px
  have HSW := Lib.hid (show ∀ b, S b → b < (((w.alloc (.cells #[.int .i64 17, .int .i64 lk, .bool lb, .int .i64 ln, .string ls, .string lt, .string lu, .slice lA ll lc, .slice lB lm ld, .string en, .slice eK eks.length ec, .slice eN ens.length ed] 30)).alloc (.cells #[.int .i64 ak, .bool ab, .int .i64 an, .string as', .string at', .string au, .slice aA ai.length ac, .slice aB am.length ad] 27)).alloc (.cells zeroCells.toArray 27)).heap.size from fun b hb => Nat.lt_of_lt_of_le (HS.out b hb) HX0.out.size)
  have Hva := Lib.hid (Val.At.alike (Alike.of_ext HX0.out HS.out) _ _ HVa.out)
  have HD : Hid (attributeV c 17 en (Val.mk ak ab an as' at' au ai am) = res) := Lib.hid (by rw [← hres]; simp [oneV])
  have HXW := Lib.hid (HX_e.out.ext HX0.out)
  clear hS hr ha he hev hek hen hres
  have HC := Lib.hid (show Calls _ _ _ _ (ValErrIn S (attributeV c 17 en (Val.mk ak ab an as' at' au ai am)).1 (attributeV c 17 en (Val.mk ak ab an as' at' au ai am)).2 (((w.alloc (.cells #[.int .i64 17, .int .i64 lk, .bool lb, .int .i64 ln, .string ls, .string lt, .string lu, .slice lA ll lc, .slice lB lm ld, .string en, .slice eK eks.length ec, .slice eN ens.length ed] 30)).alloc (.cells #[.int .i64 ak, .bool ab, .int .i64 an, .string as', .string at', .string au, .slice aA ai.length ac, .slice aB am.length ad] 27)).alloc (.cells zeroCells.toArray 27))) from attributeE_ok S (Exp.mk 17 ev en eks ens) (Val.mk ak ab an as' at' au ai am) g (((w.alloc (.cells #[.int .i64 17, .int .i64 lk, .bool lb, .int .i64 ln, .string ls, .string lt, .string lu, .slice lA ll lc, .slice lB lm ld, .string en, .slice eK eks.length ec, .slice eN ens.length ed] 30)).alloc (.cells #[.int .i64 ak, .bool ab, .int .i64 an, .string as', .string at', .string au, .slice aA ai.length ac, .slice aB am.length ad] 27)).alloc (.cells zeroCells.toArray 27)) [.int .i64 17, .int .i64 lk, .bool lb, .int .i64 ln, .string ls, .string lt, .string lu, .slice lA ll lc, .slice lB lm ld, .string en, .slice eK eks.length ec, .slice eN ens.length ed] [.int .i64 ak, .bool ab, .int .i64 an, .string as', .string at', .string au, .slice aA ai.length ac, .slice aB am.length ad] HSW.out (HRk.out.ext HX0.out) HXW.out Hva.out)
  rw [HD.out] at HC
  go_enter Tryz.func62, Tryz.ntmps62
  go_wp2_with (first | refine wpList_load_cells rfl 30 _ rfl w.heap.size 0 rfl Tryz.aggEx Tryz.sizeEx (cs := [.int .i64 17, .int .i64 lk, .bool lb, .int .i64 ln, .string ls, .string lt, .string lu, .slice lA ll lc, .slice lB lm ld, .string en, .slice eK eks.length ec, .slice eN ens.length ed]) rfl (cells_of_row HE0.out) ?_ | refine wpList_load_cells rfl 27 _ rfl (w.heap.size + 1) 0 rfl Tryz.agg27 Tryz.size27 (cs := [.int .i64 ak, .bool ab, .int .i64 an, .string as', .string at', .string au, .slice aA ai.length ac, .slice aB am.length ad]) rfl (cells_of_row HA0.out) ?_)
  refine HC.out.mono ?_
  rintro e9 w9 ⟨cv, rfl, hv, hx9⟩
  obtain ⟨z, ez⟩ := res
  obtain ⟨zk, zb, zn, zs, zt, zu, zi, zm⟩ := z
  obtain ⟨zA, zc, zB, zd, rfl⟩ := hv.opened
  have HX9 := Lib.hid (HX0.out.trans hx9)
  have HR9 := Lib.hid ((hx9.block _ (Blk_lt HR0.out)).trans HR0.out)
  have HV9 : Hid (Val.At (fun b => S b ∨ Fresh (w.heap.size + 3) w9 b) w9 (Val.mk zk zb zn zs zt zu zi zm) [.int .i64 zk, .bool zb, .int .i64 zn, .string zs, .string zt, .string zu, .slice zA zi.length zc, .slice zB zm.length zd]) := Lib.hid (hv.mono fun b hb => hb.imp id fun h => ⟨Nat.le_trans (by simp) h.1, h.2⟩)
  clear hv hx9
  go_wp2_with (refine wpList_store_cells rfl 27 _ _ rfl (w.heap.size + 2) 0 rfl [.int .i64 zk, .bool zb, .int .i64 zn, .string zs, .string zt, .string zu, .slice zA zi.length zc, .slice zB zm.length zd] rfl Tryz.size27 rfl 27 zeroCells.toArray HR9.out (by simp [zeroCells]) HV9.out.one ?_)
  exact bodyPost_ret (v := .tuple #[.agg (show List Value from [.int .i64 zk, .bool zb, .int .i64 zn, .string zs, .string zt, .string zu, .slice zA zi.length zc, .slice zB zm.length zd]).toArray, .int .i64 ez]) (results_cell Tryz.results62 rfl Tryz.agg27 Tryz.size27 rfl (cellsAt_setRow HR9.out (by simp [zeroCells]))) rfl ⟨[.int .i64 zk, .bool zb, .int .i64 zn, .string zs, .string zt, .string zu, .slice zA zi.length zc, .slice zB zm.length zd], rfl, ret_in HV9.out HS.out (by omega) (Ext.refl w9) (by omega) HX9.out.size _, HX9.out.setRow (by omega) _⟩
set_option maxRecDepth 100000 in
set_option maxHeartbeats 4000000 in
theorem one_18 {q : Req} {c : List Ent} (S : Nat → Prop) (e : Exp) (a : Val) (g : Nat) (w : World) (cs ca : List Value) (heo : e.op = 18) (hS : ∀ b, S b → b < w.heap.size) (hr : Rk q c w g) (he : InX w e cs) (ha : Val.At S w a ca) :
    Calls Tryz.prog 62 #[.pointer (some ⟨g, 0, none⟩), .agg cs.toArray, .agg ca.toArray] w (ValErrIn S (oneV c 18 e.name a).1 (oneV c 18 e.name a).2 w) := by
  have HX_e := Lib.hid he
  obtain ⟨eo, ev, en, eks, ens⟩ := e
  obtain ⟨lk, lb, ln, ls, lt, lu, lA, ll, lc, lB, lm, ld, eK, ec, eN, ed, hcs, _, hev, hek, hen⟩ := Exp.At.shape he
  obtain rfl : cs = [.int .i64 eo, .int .i64 lk, .bool lb, .int .i64 ln, .string ls, .string lt, .string lu, .slice lA ll lc, .slice lB lm ld, .string en, .slice eK eks.length ec, .slice eN ens.length ed] := hcs
  have hev : InW w ev [.int .i64 lk, .bool lb, .int .i64 ln, .string ls, .string lt, .string lu, .slice lA ll lc, .slice lB lm ld] := hev
  have hek : expR.RowsAt (fun b => b < w.heap.size) w eks (.slice eK eks.length ec) := hek
  have hen : StrsAt (fun b => b < w.heap.size) w ens (.slice eN ens.length ed) := hen
  replace heo : eo = 18 := heo
  subst heo
  obtain ⟨ak, ab, an, as', at', au, ai, am⟩ := a
  obtain ⟨aA, ac, aB, ad, rfl⟩ := ha.opened
  show Calls _ _ _ _ (ValErrIn S (oneV c 18 en (Val.mk ak ab an as' at' au ai am)).1 (oneV c 18 en (Val.mk ak ab an as' at' au ai am)).2 w)
  have HS := Lib.hid hS
  have HVa := Lib.hid ha
  have HRk := Lib.hid hr
  obtain ⟨res, hres⟩ : ∃ res, oneV c 18 en (Val.mk ak ab an as' at' au ai am) = res := ⟨_, rfl⟩
  rw [hres]
  obtain ⟨p0, p1, p2, ps, px⟩ := heapA3 w (.cells #[.int .i64 18, .int .i64 lk, .bool lb, .int .i64 ln, .string ls, .string lt, .string lu, .slice lA ll lc, .slice lB lm ld, .string en, .slice eK eks.length ec, .slice eN ens.length ed] 30) (.cells #[.int .i64 ak, .bool ab, .int .i64 an, .string as', .string at', .string au, .slice aA ai.length ac, .slice aB am.length ad] 27) (.cells zeroCells.toArray 27)
  have HE0 := Lib.hid p0
  have HA0 := Lib.hid p1
  have HR0 := Lib.hid p2
  have HX0 := Lib.hid px
  clear p0 p1 p2 ps px
  have HSW := Lib.hid (show ∀ b, S b → b < (((w.alloc (.cells #[.int .i64 18, .int .i64 lk, .bool lb, .int .i64 ln, .string ls, .string lt, .string lu, .slice lA ll lc, .slice lB lm ld, .string en, .slice eK eks.length ec, .slice eN ens.length ed] 30)).alloc (.cells #[.int .i64 ak, .bool ab, .int .i64 an, .string as', .string at', .string au, .slice aA ai.length ac, .slice aB am.length ad] 27)).alloc (.cells zeroCells.toArray 27)).heap.size from fun b hb => Nat.lt_of_lt_of_le (HS.out b hb) HX0.out.size)
  have Hva := Lib.hid (Val.At.alike (Alike.of_ext HX0.out HS.out) _ _ HVa.out)
  have HD : Hid (attributeV c 18 en (Val.mk ak ab an as' at' au ai am) = res) := Lib.hid (by rw [← hres]; simp [oneV])
  have HXW := Lib.hid (HX_e.out.ext HX0.out)
  clear hS hr ha he hev hek hen hres
  have HC := Lib.hid (show Calls _ _ _ _ (ValErrIn S (attributeV c 18 en (Val.mk ak ab an as' at' au ai am)).1 (attributeV c 18 en (Val.mk ak ab an as' at' au ai am)).2 (((w.alloc (.cells #[.int .i64 18, .int .i64 lk, .bool lb, .int .i64 ln, .string ls, .string lt, .string lu, .slice lA ll lc, .slice lB lm ld, .string en, .slice eK eks.length ec, .slice eN ens.length ed] 30)).alloc (.cells #[.int .i64 ak, .bool ab, .int .i64 an, .string as', .string at', .string au, .slice aA ai.length ac, .slice aB am.length ad] 27)).alloc (.cells zeroCells.toArray 27))) from attributeE_ok S (Exp.mk 18 ev en eks ens) (Val.mk ak ab an as' at' au ai am) g (((w.alloc (.cells #[.int .i64 18, .int .i64 lk, .bool lb, .int .i64 ln, .string ls, .string lt, .string lu, .slice lA ll lc, .slice lB lm ld, .string en, .slice eK eks.length ec, .slice eN ens.length ed] 30)).alloc (.cells #[.int .i64 ak, .bool ab, .int .i64 an, .string as', .string at', .string au, .slice aA ai.length ac, .slice aB am.length ad] 27)).alloc (.cells zeroCells.toArray 27)) [.int .i64 18, .int .i64 lk, .bool lb, .int .i64 ln, .string ls, .string lt, .string lu, .slice lA ll lc, .slice lB lm ld, .string en, .slice eK eks.length ec, .slice eN ens.length ed] [.int .i64 ak, .bool ab, .int .i64 an, .string as', .string at', .string au, .slice aA ai.length ac, .slice aB am.length ad] HSW.out (HRk.out.ext HX0.out) HXW.out Hva.out)
  rw [HD.out] at HC
  go_enter Tryz.func62, Tryz.ntmps62
  go_wp2_with (first | refine wpList_load_cells rfl 30 _ rfl w.heap.size 0 rfl Tryz.aggEx Tryz.sizeEx (cs := [.int .i64 18, .int .i64 lk, .bool lb, .int .i64 ln, .string ls, .string lt, .string lu, .slice lA ll lc, .slice lB lm ld, .string en, .slice eK eks.length ec, .slice eN ens.length ed]) rfl (cells_of_row HE0.out) ?_ | refine wpList_load_cells rfl 27 _ rfl (w.heap.size + 1) 0 rfl Tryz.agg27 Tryz.size27 (cs := [.int .i64 ak, .bool ab, .int .i64 an, .string as', .string at', .string au, .slice aA ai.length ac, .slice aB am.length ad]) rfl (cells_of_row HA0.out) ?_)
  refine HC.out.mono ?_
  rintro e9 w9 ⟨cv, rfl, hv, hx9⟩
  obtain ⟨z, ez⟩ := res
  obtain ⟨zk, zb, zn, zs, zt, zu, zi, zm⟩ := z
  obtain ⟨zA, zc, zB, zd, rfl⟩ := hv.opened
  have HX9 := Lib.hid (HX0.out.trans hx9)
  have HR9 := Lib.hid ((hx9.block _ (Blk_lt HR0.out)).trans HR0.out)
  have HV9 : Hid (Val.At (fun b => S b ∨ Fresh (w.heap.size + 3) w9 b) w9 (Val.mk zk zb zn zs zt zu zi zm) [.int .i64 zk, .bool zb, .int .i64 zn, .string zs, .string zt, .string zu, .slice zA zi.length zc, .slice zB zm.length zd]) := Lib.hid (hv.mono fun b hb => hb.imp id fun h => ⟨Nat.le_trans (by simp) h.1, h.2⟩)
  clear hv hx9
  go_wp2_with (refine wpList_store_cells rfl 27 _ _ rfl (w.heap.size + 2) 0 rfl [.int .i64 zk, .bool zb, .int .i64 zn, .string zs, .string zt, .string zu, .slice zA zi.length zc, .slice zB zm.length zd] rfl Tryz.size27 rfl 27 zeroCells.toArray HR9.out (by simp [zeroCells]) HV9.out.one ?_)
  exact bodyPost_ret (v := .tuple #[.agg (show List Value from [.int .i64 zk, .bool zb, .int .i64 zn, .string zs, .string zt, .string zu, .slice zA zi.length zc, .slice zB zm.length zd]).toArray, .int .i64 ez]) (results_cell Tryz.results62 rfl Tryz.agg27 Tryz.size27 rfl (cellsAt_setRow HR9.out (by simp [zeroCells]))) rfl ⟨[.int .i64 zk, .bool zb, .int .i64 zn, .string zs, .string zt, .string zu, .slice zA zi.length zc, .slice zB zm.length zd], rfl, ret_in HV9.out HS.out (by omega) (Ext.refl w9) (by omega) HX9.out.size _, HX9.out.setRow (by omega) _⟩
theorem oneE_ok {q : Req} {c : List Ent} (S : Nat → Prop) (e : Exp) (a : Val) (g : Nat) (w : World) (cs ca : List Value) (hop : e.op = 6 ∨ e.op = 14 ∨ e.op = 16 ∨ e.op = 17 ∨ e.op = 18) (hS : ∀ b, S b → b < w.heap.size) (hr : Rk q c w g) (he : InX w e cs) (ha : Val.At S w a ca) :
    Calls Tryz.prog 62 #[.pointer (some ⟨g, 0, none⟩), .agg cs.toArray, .agg ca.toArray] w (ValErrIn S (oneV c e.op e.name a).1 (oneV c e.op e.name a).2 w) := by
  rcases hop with h | h | h | h | h
  · rw [h]; exact one_6 S e a g w cs ca h hS hr he ha
  · rw [h]; exact one_14 S e a g w cs ca h hS hr he ha
  · rw [h]; exact one_16 S e a g w cs ca h hS hr he ha
  · rw [h]; exact one_17 S e a g w cs ca h hS hr he ha
  · rw [h]; exact one_18 S e a g w cs ca h hS hr he ha
end Go.Proofs.YtebfoimbdljbmaaGreatDoor
