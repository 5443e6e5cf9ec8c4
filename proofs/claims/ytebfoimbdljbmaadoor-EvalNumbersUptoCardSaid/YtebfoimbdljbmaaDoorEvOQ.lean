/-
  What asks for one value, as the program's evaluation has it. The conditions: what is handed in lies in memory as it should.
-/
import Derived.Test.YtebfoimbdljbmaaDoorEvIQ
namespace Go.Proofs.YtebfoimbdljbmaaDoor
open Go.RowKit
theorem bytes_dec (a b : ByteArray) : decide (a = b) = (a.toList == b.toList) := by
  by_cases h : a = b
  · simp [h]
  · rw [decide_eq_false h, Eq.comm, beq_eq_false_iff_ne]
    exact fun e => h (toList_inj e)
set_option maxRecDepth 100000 in
set_option maxHeartbeats 4000000 in
theorem one_14 {q : Req} {c : List Ent} (S : Nat → Prop) (e : Exp) (a : Val) (g : Nat) (w : World) (cs ca : List Value) (heo : e.op = 14) (hS : ∀ b, S b → b < w.heap.size) (hr : Rk q c w g) (he : InX w e cs) (ha : Val.At S w a ca) :
    Calls Tryd.prog 20 #[.pointer (some ⟨g, 0, none⟩), .agg cs.toArray, .agg ca.toArray] w (ValErrIn S (oneV c 14 e.name a).1 (oneV c 14 e.name a).2 w) := by
  have HX_e := Lib.hid he
  obtain ⟨eo, ev, en, eks, ens⟩ := e
  obtain ⟨lk, lb, ln, ls, lt, lu, lA, ll, lc, lB, lm, ld, eK, ec, eN, ed, hcs, _, hev, hek, hen⟩ := Exp.At.shape he
  obtain rfl : cs = [.int .i64 eo, .int .i64 lk, .bool lb, .int .i64 ln, .string ls, .string lt, .string lu, .slice lA ll lc, .slice lB lm ld, .string en, .slice eK eks.length ec, .slice eN ens.length ed] := hcs
  have hev : InW w ev [.int .i64 lk, .bool lb, .int .i64 ln, .string ls, .string lt, .string lu, .slice lA ll lc, .slice lB lm ld] := hev
  have hek : expR.RowsAt (fun b => b < w.heap.size) w eks (.slice eK eks.length ec) := hek
  have hen : StrsAt (fun b => b < w.heap.size) w ens (.slice eN ens.length ed) := hen
  replace heo : eo = 14 := heo
  subst heo
  obtain ⟨ak, ab, an, as', at', au, ai, am⟩ := a
  obtain ⟨aA, ac, aB, ad, rfl⟩ := ha.opened
  show Calls _ _ _ _ (ValErrIn S (oneV c 14 en (Val.mk ak ab an as' at' au ai am)).1 (oneV c 14 en (Val.mk ak ab an as' at' au ai am)).2 w)
  have HS := Lib.hid hS
  have HVa := Lib.hid ha
  have HRk := Lib.hid hr
  obtain ⟨res, hres⟩ : ∃ res, oneV c 14 en (Val.mk ak ab an as' at' au ai am) = res := ⟨_, rfl⟩
  rw [hres]
  by_cases hk : ak = 2
  case neg =>
    have ek : (ak == 2) = false := by simpa using hk
    have hh : res = (.zero, 30) := by rw [← hres]; simp [oneV, Val.kind, hk, no]
    subst hh
    obtain ⟨p0, p1, p2, ps, px⟩ := heapA3 w (.cells #[.int .i64 14, .int .i64 lk, .bool lb, .int .i64 ln, .string ls, .string lt, .string lu, .slice lA ll lc, .slice lB lm ld, .string en, .slice eK eks.length ec, .slice eN ens.length ed] 31) (.cells #[.int .i64 ak, .bool ab, .int .i64 an, .string as', .string at', .string au, .slice aA ai.length ac, .slice aB am.length ad] 28) (.cells zeroCells.toArray 28)
    have HE0 := Lib.hid p0
    have HA0 := Lib.hid p1
    have HR0 := Lib.hid p2
    have HX0 := Lib.hid px
    clear p0 p1 p2 ps px
    have HSW := Lib.hid (show ∀ b, S b → b < (((w.alloc (.cells #[.int .i64 14, .int .i64 lk, .bool lb, .int .i64 ln, .string ls, .string lt, .string lu, .slice lA ll lc, .slice lB lm ld, .string en, .slice eK eks.length ec, .slice eN ens.length ed] 31)).alloc (.cells #[.int .i64 ak, .bool ab, .int .i64 an, .string as', .string at', .string au, .slice aA ai.length ac, .slice aB am.length ad] 28)).alloc (.cells zeroCells.toArray 28)).heap.size from fun b hb => Nat.lt_of_lt_of_le (HS.out b hb) HX0.out.size)
    have Hva := Lib.hid (Val.At.alike (Alike.of_ext HX0.out HS.out) _ _ HVa.out)

    clear hS hr ha he hev hek hen hres hk
    go_enter Tryd.func20, Tryd.ntmps20
    go_wp2_with (refine wpList_store_cells rfl 28 _ _ rfl (w.heap.size + 2) 0 rfl zeroCells rfl Tryd.size27 rfl 28 zeroCells.toArray HR0.out (by simp [zeroCells]) zero_one ?_)
    exact bodyPost_ret (v := .tuple #[.agg (show List Value from zeroCells).toArray, .int .i64 30]) (results_cell Tryd.results20 rfl Tryd.agg27 Tryd.size27 rfl (cellsAt_setRow HR0.out (by simp [zeroCells]))) rfl ⟨zeroCells, rfl, Val.zero_at _ _, HX0.out.setRow (by omega) _⟩
  subst hk
  obtain ⟨p0, p1, p2, ps, px⟩ := heapA3 w (.cells #[.int .i64 14, .int .i64 lk, .bool lb, .int .i64 ln, .string ls, .string lt, .string lu, .slice lA ll lc, .slice lB lm ld, .string en, .slice eK eks.length ec, .slice eN ens.length ed] 31) (.cells #[.int .i64 2, .bool ab, .int .i64 an, .string as', .string at', .string au, .slice aA ai.length ac, .slice aB am.length ad] 28) (.cells zeroCells.toArray 28)
  have HE0 := Lib.hid p0
  have HA0 := Lib.hid p1
  have HR0 := Lib.hid p2
  have HX0 := Lib.hid px
  clear p0 p1 p2 ps px
  have HSW := Lib.hid (show ∀ b, S b → b < (((w.alloc (.cells #[.int .i64 14, .int .i64 lk, .bool lb, .int .i64 ln, .string ls, .string lt, .string lu, .slice lA ll lc, .slice lB lm ld, .string en, .slice eK eks.length ec, .slice eN ens.length ed] 31)).alloc (.cells #[.int .i64 2, .bool ab, .int .i64 an, .string as', .string at', .string au, .slice aA ai.length ac, .slice aB am.length ad] 28)).alloc (.cells zeroCells.toArray 28)).heap.size from fun b hb => Nat.lt_of_lt_of_le (HS.out b hb) HX0.out.size)
  have Hva := Lib.hid (Val.At.alike (Alike.of_ext HX0.out HS.out) _ _ HVa.out)

  have hc := neg_ok an ha.bounds.2.1 (((w.alloc (.cells #[.int .i64 14, .int .i64 lk, .bool lb, .int .i64 ln, .string ls, .string lt, .string lu, .slice lA ll lc, .slice lB lm ld, .string en, .slice eK eks.length ec, .slice eN ens.length ed] 31)).alloc (.cells #[.int .i64 2, .bool ab, .int .i64 an, .string as', .string at', .string au, .slice aA ai.length ac, .slice aB am.length ad] 28)).alloc (.cells zeroCells.toArray 28))
  unfold FitAns at hc
  obtain ⟨⟨n, ne⟩, hn⟩ : ∃ r, fitN (-an) = r := ⟨_, rfl⟩
  rw [hn] at hc
  have HC := Lib.hid hc
  have HN := Lib.hid hn
  have HD : Hid (res = fitI (-an)) := Lib.hid (by rw [← hres]; simp [oneV, Val.kind, Val.num])
  clear hS hr ha he hev hek hen hres hc hn
  go_enter Tryd.func20, Tryd.ntmps20
  go_wp2_with fail
  refine HC.out.mono ?_
  rintro e1 w1 ⟨rfl, rfl⟩
  by_cases hf : -9223372036854775808 ≤ -an ∧ -an ≤ 9223372036854775807
  case neg =>
    obtain ⟨rfl, rfl⟩ : n = 0 ∧ ne = 14 := by have := HN.out; unfold fitN at this; rw [if_neg hf] at this; exact ⟨by injection this with h1 h2; exact h1.symm, by injection this with h1 h2; exact h2.symm⟩
    have hh : res = (.zero, 14) := by rw [HD.out]; unfold fitI; rw [if_neg hf]; rfl
    subst hh
    clear hf
    go_wp2_with (refine wpList_store_cells rfl 28 _ _ rfl (w.heap.size + 2) 0 rfl zeroCells rfl Tryd.size27 rfl 28 zeroCells.toArray HR0.out (by simp [zeroCells]) zero_one ?_)
    exact bodyPost_ret (v := .tuple #[.agg (show List Value from zeroCells).toArray, .int .i64 14]) (results_cell Tryd.results20 rfl Tryd.agg27 Tryd.size27 rfl (cellsAt_setRow HR0.out (by simp [zeroCells]))) rfl ⟨zeroCells, rfl, Val.zero_at _ _, HX0.out.setRow (by omega) _⟩
  obtain ⟨hn0, rfl⟩ : -an = n ∧ ne = 0 := by have := HN.out; unfold fitN at this; rw [if_pos hf] at this; exact ⟨by injection this with h1 h2, by injection this with h1 h2; exact h2.symm⟩
  have hh : res = (.whole n, 0) := by rw [HD.out]; unfold fitI; rw [if_pos hf, hn0]
  have HI : Hid (I64 n) := Lib.hid (by rw [← hn0]; exact hf)
  subst hh
  clear hf hn0
  go_wp2_with fail
  refine (numberE_ok n _).mono ?_
  rintro et wt ⟨rfl, hxt⟩
  have HXt := Lib.hid hxt
  have HRt := Lib.hid ((hxt.block _ (Blk_lt HR0.out)).trans HR0.out)
  clear hxt
  go_wp2_with (refine wpList_store_cells rfl 28 _ _ rfl (w.heap.size + 2) 0 rfl (wholeC (n)) rfl Tryd.size27 rfl 28 zeroCells.toArray HRt.out (by simp [zeroCells, wholeC]) (whole_one (n)) ?_)
  exact bodyPost_ret (v := .tuple #[.agg (show List Value from (wholeC (n))).toArray, .int .i64 0]) (results_cell Tryd.results20 rfl Tryd.agg27 Tryd.size27 rfl (cellsAt_setRow HRt.out (by simp [zeroCells, wholeC]))) rfl ⟨(wholeC (n)), rfl, whole_at _ _ _ HI.out, (HX0.out.trans HXt.out).setRow (by omega) _⟩
end Go.Proofs.YtebfoimbdljbmaaDoor
