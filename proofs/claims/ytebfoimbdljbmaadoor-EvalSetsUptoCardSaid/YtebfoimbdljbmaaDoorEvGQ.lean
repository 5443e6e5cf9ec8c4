/-
  What an expression comes to, as the program has it. The conditions: what is handed in lies in memory as it should; the entities' attributes are not deep.
-/
import Derived.Test.YtebfoimbdljbmaaDoorEvDQ
namespace Go.Proofs.YtebfoimbdljbmaaDoor
open Go.RowKit
/-- with the awake's own operators alone -/
def Few3 (op : Int) : Prop := op = 1 ∨ op = 4 ∨ op = 11
theorem evF_ok {q : Req} {c : List Ent} : ∀ n, EvOf Few3 q c n
  | 0 => fun e g w cs hn => by cases e; simp at hn
  | n + 1 => fun e g w cs hn hl hr he => by
    have ih := evF_ok (q := q) (c := c) n
    cases hb : badOp e.op e.kids.length e.names.length with
    | true => exact eval_bad ih e g w cs hb hn hl hr he
    | false =>
      rcases (Exp.fine_iff.1 hl).1 with h | h | h
      · exact eval_lit ih e g w cs h hb hn hl hr he
      · exact eval_and ih e g w cs h hb hn hl hr he
      · exact eval_two ih e g w cs (.inr <| .inr <| .inr <| .inl h) hb (fun S a b W ca cb hS hr ha hb => by rw [h]; exact two_11 S a b g W ca cb hS hr ha hb) hn hl hr he
theorem Tryd.aggQ : ∀ w, (isAgg 38).run Tryd.prog w = .ok true w := fun _ => by kernel_rfl
theorem Tryd.sizeQ : ∀ w, (Go.sizeOf 38).run Tryd.prog w = .ok 14 w := fun _ => by kernel_rfl
set_option maxRecDepth 100000 in
set_option maxHeartbeats 4000000 in
theorem evalM_none {A : Int → Prop} {q : Req} {c : List Ent} (hev : ∀ n, EvOf A q c n) (e : Exp) (w : World) (cs qc : List Value) (hd : e.dep ≤ 1000000) (hl : e.fine A) (he : InX w e cs) (hq : InR w q qc) (hst : StoreV w (.pointer none) c) (hqd : q.ctx.dep ≤ 1000000) (hsm : Sums w) :
    Calls Tryd.prog 7 #[.agg cs.toArray, .agg qc.toArray, (.pointer none)] w (ValErr (e.eval q c).1 (e.eval q c).2 w) := by
  have HXe := Lib.hid he
  have HQ := Lib.hid hq
  have HSt := Lib.hid hst
  have HSm := Lib.hid hsm
  have HQd := Lib.hid hqd
  have HLi := Lib.hid hl
  have HD0 := Lib.hid (show e.eval q c = if 50 < e.dep then no 11 else e.ev q c from rfl)
  obtain ⟨dp, hdp⟩ : ∃ d, e.dep = d := ⟨_, rfl⟩
  have HDp := Lib.hid hdp
  obtain ⟨vk, vb, vn, vs, vt, vu, vA, vl, vc, vB, vm, vd, rfl, _⟩ := hq.shape
  obtain ⟨eo, ev, en, eks, ens⟩ := e
  obtain ⟨lk, lb, ln, ls, lt, lu, lA, ll, lc, lB, lm, ld, eK, ec, eN, ed, hcs, _⟩ := Exp.At.shape he
  obtain rfl : cs = [.int .i64 eo, .int .i64 lk, .bool lb, .int .i64 ln, .string ls, .string lt, .string lu, .slice lA ll lc, .slice lB lm ld, .string en, .slice eK eks.length ec, .slice eN ens.length ed] := hcs
  obtain ⟨res, hres⟩ : ∃ res, (Exp.mk eo ev en eks ens).eval q c = res := ⟨_, rfl⟩
  rw [hres] at HD0 ⊢
  obtain ⟨p0, p1, p2, ps, px⟩ := heapA3 w (.cells #[.int .i64 eo, .int .i64 lk, .bool lb, .int .i64 ln, .string ls, .string lt, .string lu, .slice lA ll lc, .slice lB lm ld, .string en, .slice eK eks.length ec, .slice eN ens.length ed] 31) (.cells #[.string q.pr.1, .string q.pr.2, .string q.act.1, .string q.act.2, .string q.res.1, .string q.res.2, .int .i64 vk, .bool vb, .int .i64 vn, .string vs, .string vt, .string vu, .slice vA vl vc, .slice vB vm vd] 38) (.cells zeroCells.toArray 28)
  have HE0 := Lib.hid p0
  have HQ0 := Lib.hid p1
  have HR0 := Lib.hid p2
  have HX0 := Lib.hid px
  clear p0 p1 p2 ps px
  have hc := depthE_ok (SizeOf.sizeOf (Exp.mk eo ev en eks ens)) (Exp.mk eo ev en eks ens) (((w.alloc (.cells #[.int .i64 eo, .int .i64 lk, .bool lb, .int .i64 ln, .string ls, .string lt, .string lu, .slice lA ll lc, .slice lB lm ld, .string en, .slice eK eks.length ec, .slice eN ens.length ed] 31)).alloc (.cells #[.string q.pr.1, .string q.pr.2, .string q.act.1, .string q.act.2, .string q.res.1, .string q.res.2, .int .i64 vk, .bool vb, .int .i64 vn, .string vs, .string vt, .string vu, .slice vA vl vc, .slice vB vm vd] 38)).alloc (.cells zeroCells.toArray 28)) [.int .i64 eo, .int .i64 lk, .bool lb, .int .i64 ln, .string ls, .string lt, .string lu, .slice lA ll lc, .slice lB lm ld, .string en, .slice eK eks.length ec, .slice eN ens.length ed] (Nat.le_refl _) hd (HXe.out.ext HX0.out)
  rw [hdp] at hc HD0
  have HC := Lib.hid hc
  clear hc hdp he hq hst hsm hqd hl hd hres
  go_enter Tryd.func7, Tryd.ntmps7
  go_wp2_with (first | (with_reducible refine at_load ?_; refine wpList_load_cells rfl 31 _ rfl w.heap.size 0 rfl Tryd.aggEx Tryd.sizeEx (cs := [.int .i64 eo, .int .i64 lk, .bool lb, .int .i64 ln, .string ls, .string lt, .string lu, .slice lA ll lc, .slice lB lm ld, .string en, .slice eK eks.length ec, .slice eN ens.length ed]) rfl (cells_of_row HE0.out) ?_))
  refine HC.out.mono ?_
  rintro e1 w1 ⟨rfl, hx1⟩
  have HX1 := Lib.hid (HX0.out.trans hx1)
  have HR1 := Lib.hid ((hx1.block _ (Blk_lt HR0.out)).trans HR0.out)
  have HE1 := Lib.hid ((hx1.block _ (Blk_lt HE0.out)).trans HE0.out)
  have HQ1 := Lib.hid ((hx1.block _ (Blk_lt HQ0.out)).trans HQ0.out)
  clear hx1 HC
  by_cases h50 : 50 < dp
  · have t0 : decide ((50 : Int) < (dp : Int)) = true := by simp; omega
    have hh : res = (.zero, 11) := by rw [HD0.out, if_pos h50]; rfl
    subst hh
    clear h50
    go_wp2_with ((with_reducible refine at_store ?_; refine wpList_store_cells rfl 28 _ _ rfl (w.heap.size + 2) 0 rfl zeroCells rfl Tryd.size27 rfl 28 zeroCells.toArray HR1.out (by simp [zeroCells]) zero_one ?_))
    exact bodyPost_ret (v := .tuple #[.agg (show List Value from zeroCells).toArray, .int .i64 11]) (results_cell Tryd.results7 rfl Tryd.agg27 Tryd.size27 rfl (cellsAt_setRow HR1.out (by simp [zeroCells]))) rfl ⟨zeroCells, rfl, Val.zero_at _ _, HX1.out.setRow (by omega) _⟩
  have t0 : decide ((50 : Int) < (dp : Int)) = false := by simp; omega
  have hh : (Exp.mk eo ev en eks ens).ev q c = res := by rw [HD0.out, if_neg h50]
  have HHh := Lib.hid hh
  clear h50 hh
  have HR2 := Lib.hid ((heap_alloc_old w1 (.cells #[.string q.pr.1, .string q.pr.2, .string q.act.1, .string q.act.2, .string q.res.1, .string q.res.2, .int .i64 vk, .bool vb, .int .i64 vn, .string vs, .string vt, .string vu, .slice vA vl vc, .slice vB vm vd, (.pointer none)] 53) (Blk_lt HR1.out)).trans HR1.out)
  have HE2 := Lib.hid ((heap_alloc_old w1 (.cells #[.string q.pr.1, .string q.pr.2, .string q.act.1, .string q.act.2, .string q.res.1, .string q.res.2, .int .i64 vk, .bool vb, .int .i64 vn, .string vs, .string vt, .string vu, .slice vA vl vc, .slice vB vm vd, (.pointer none)] 53) (Blk_lt HE1.out)).trans HE1.out)
  have HX2 := Lib.hid (HX1.out.alloc (.cells #[.string q.pr.1, .string q.pr.2, .string q.act.1, .string q.act.2, .string q.res.1, .string q.res.2, .int .i64 vk, .bool vb, .int .i64 vn, .string vs, .string vt, .string vu, .slice vA vl vc, .slice vB vm vd, (.pointer none)] 53))
  have HG2 := Lib.hid (heap_alloc_new w1 (.cells #[.string q.pr.1, .string q.pr.2, .string q.act.1, .string q.act.2, .string q.res.1, .string q.res.2, .int .i64 vk, .bool vb, .int .i64 vn, .string vs, .string vt, .string vu, .slice vA vl vc, .slice vB vm vd, (.pointer none)] 53))
  have Hlow : Hid (w.heap.size + 3 ≤ w1.heap.size) := Lib.hid (by have := Blk_lt HR1.out; omega)
  have hrk : Rk q c (w1.alloc (.cells #[.string q.pr.1, .string q.pr.2, .string q.act.1, .string q.act.2, .string q.res.1, .string q.res.2, .int .i64 vk, .bool vb, .int .i64 vn, .string vs, .string vt, .string vu, .slice vA vl vc, .slice vB vm vd, (.pointer none)] 53)) w1.heap.size := ⟨[.string q.pr.1, .string q.pr.2, .string q.act.1, .string q.act.2, .string q.res.1, .string q.res.2, .int .i64 vk, .bool vb, .int .i64 vn, .string vs, .string vt, .string vu, .slice vA vl vc, .slice vB vm vd], (.pointer none), rfl, HG2.out, HQ.out.ext HX2.out, HSt.out.ext HX2.out, HQd.out, HSm.out.ext HX2.out⟩
  have hc := hev (SizeOf.sizeOf (Exp.mk eo ev en eks ens)) (Exp.mk eo ev en eks ens) w1.heap.size (w1.alloc (.cells #[.string q.pr.1, .string q.pr.2, .string q.act.1, .string q.act.2, .string q.res.1, .string q.res.2, .int .i64 vk, .bool vb, .int .i64 vn, .string vs, .string vt, .string vu, .slice vA vl vc, .slice vB vm vd, (.pointer none)] 53)) [.int .i64 eo, .int .i64 lk, .bool lb, .int .i64 ln, .string ls, .string lt, .string lu, .slice lA ll lc, .slice lB lm ld, .string en, .slice eK eks.length ec, .slice eN ens.length ed] (Nat.le_refl _) HLi.out hrk (HXe.out.ext HX2.out)
  rw [HHh.out] at hc
  have HC := Lib.hid hc
  clear hc hrk hev
  go_wp2_with (first | (with_reducible refine at_load ?_; refine wpList_load_cells rfl 31 _ rfl w.heap.size 0 rfl Tryd.aggEx Tryd.sizeEx (cs := [.int .i64 eo, .int .i64 lk, .bool lb, .int .i64 ln, .string ls, .string lt, .string lu, .slice lA ll lc, .slice lB lm ld, .string en, .slice eK eks.length ec, .slice eN ens.length ed]) rfl (cells_of_row HE2.out) ?_) | (with_reducible refine at_load ?_; refine wpList_load_cells rfl 31 _ rfl w.heap.size 0 rfl Tryd.aggEx Tryd.sizeEx (cs := [.int .i64 eo, .int .i64 lk, .bool lb, .int .i64 ln, .string ls, .string lt, .string lu, .slice lA ll lc, .slice lB lm ld, .string en, .slice eK eks.length ec, .slice eN ens.length ed]) rfl (cells_of_row HE1.out) ?_) | (with_reducible refine at_load ?_; refine wpList_load_cells rfl 38 _ rfl (w.heap.size + 1) 0 rfl Tryd.aggQ Tryd.sizeQ (cs := [.string q.pr.1, .string q.pr.2, .string q.act.1, .string q.act.2, .string q.res.1, .string q.res.2, .int .i64 vk, .bool vb, .int .i64 vn, .string vs, .string vt, .string vu, .slice vA vl vc, .slice vB vm vd]) rfl (cells_of_row HQ1.out) ?_))
  refine (HC.out).mono ?_
  rintro e9 w9 ⟨cv, rfl, hv, hx9⟩
  have hh : res = res := rfl
  rw [← hh] at hv ⊢
  obtain ⟨z, ez⟩ := res
  obtain ⟨zk, zb, zn, zs, zt, zu, zi, zm⟩ := z
  obtain ⟨zA, zc, zB, zd, rfl⟩ := hv.opened
  have HX9 := Lib.hid (HX2.out.trans hx9)
  have HXr := Lib.hid (Ext.refl w9)
  have HR9 := Lib.hid ((hx9.block _ (Blk_lt HR2.out)).trans HR2.out)
  have HV9 := Lib.hid hv
  clear hv hx9 hh
  go_wp2_with ((with_reducible refine at_store ?_; refine wpList_store_cells rfl 28 _ _ rfl (w.heap.size + 2) 0 rfl [.int .i64 zk, .bool zb, .int .i64 zn, .string zs, .string zt, .string zu, .slice zA zi.length zc, .slice zB zm.length zd] rfl Tryd.size27 rfl 28 zeroCells.toArray HR9.out (by simp [zeroCells]) HV9.out.one ?_))
  exact bodyPost_ret (v := .tuple #[.agg (show List Value from [.int .i64 zk, .bool zb, .int .i64 zn, .string zs, .string zt, .string zu, .slice zA zi.length zc, .slice zB zm.length zd]).toArray, .int .i64 ez]) (results_cell Tryd.results7 rfl Tryd.agg27 Tryd.size27 rfl (cellsAt_setRow HR9.out (by simp [zeroCells]))) rfl ⟨[.int .i64 zk, .bool zb, .int .i64 zn, .string zs, .string zt, .string zu, .slice zA zi.length zc, .slice zB zm.length zd], rfl, ret_at HV9.out HXr.out (by have := Hlow.out; simp <;> omega) (by have := Hlow.out; simp <;> omega) _, HX9.out.setRow (by omega) _⟩
set_option maxRecDepth 100000 in
set_option maxHeartbeats 4000000 in
theorem evalM_some {A : Int → Prop} {q : Req} {c : List Ent} (hev : ∀ n, EvOf A q c n) (e : Exp) (w : World) (cs qc : List Value) (sg : Nat) (hd : e.dep ≤ 1000000) (hl : e.fine A) (he : InX w e cs) (hq : InR w q qc) (hst : StoreV w (.pointer (some ⟨sg, 0, none⟩)) c) (hqd : q.ctx.dep ≤ 1000000) (hsm : Sums w) :
    Calls Tryd.prog 7 #[.agg cs.toArray, .agg qc.toArray, (.pointer (some ⟨sg, 0, none⟩))] w (ValErr (e.eval q c).1 (e.eval q c).2 w) := by
  have HXe := Lib.hid he
  have HQ := Lib.hid hq
  have HSt := Lib.hid hst
  have HSm := Lib.hid hsm
  have HQd := Lib.hid hqd
  have HLi := Lib.hid hl
  have HD0 := Lib.hid (show e.eval q c = if 50 < e.dep then no 11 else e.ev q c from rfl)
  obtain ⟨dp, hdp⟩ : ∃ d, e.dep = d := ⟨_, rfl⟩
  have HDp := Lib.hid hdp
  obtain ⟨vk, vb, vn, vs, vt, vu, vA, vl, vc, vB, vm, vd, rfl, _⟩ := hq.shape
  obtain ⟨eo, ev, en, eks, ens⟩ := e
  obtain ⟨lk, lb, ln, ls, lt, lu, lA, ll, lc, lB, lm, ld, eK, ec, eN, ed, hcs, _⟩ := Exp.At.shape he
  obtain rfl : cs = [.int .i64 eo, .int .i64 lk, .bool lb, .int .i64 ln, .string ls, .string lt, .string lu, .slice lA ll lc, .slice lB lm ld, .string en, .slice eK eks.length ec, .slice eN ens.length ed] := hcs
  obtain ⟨res, hres⟩ : ∃ res, (Exp.mk eo ev en eks ens).eval q c = res := ⟨_, rfl⟩
  rw [hres] at HD0 ⊢
  obtain ⟨p0, p1, p2, ps, px⟩ := heapA3 w (.cells #[.int .i64 eo, .int .i64 lk, .bool lb, .int .i64 ln, .string ls, .string lt, .string lu, .slice lA ll lc, .slice lB lm ld, .string en, .slice eK eks.length ec, .slice eN ens.length ed] 31) (.cells #[.string q.pr.1, .string q.pr.2, .string q.act.1, .string q.act.2, .string q.res.1, .string q.res.2, .int .i64 vk, .bool vb, .int .i64 vn, .string vs, .string vt, .string vu, .slice vA vl vc, .slice vB vm vd] 38) (.cells zeroCells.toArray 28)
  have HE0 := Lib.hid p0
  have HQ0 := Lib.hid p1
  have HR0 := Lib.hid p2
  have HX0 := Lib.hid px
  clear p0 p1 p2 ps px
  have hc := depthE_ok (SizeOf.sizeOf (Exp.mk eo ev en eks ens)) (Exp.mk eo ev en eks ens) (((w.alloc (.cells #[.int .i64 eo, .int .i64 lk, .bool lb, .int .i64 ln, .string ls, .string lt, .string lu, .slice lA ll lc, .slice lB lm ld, .string en, .slice eK eks.length ec, .slice eN ens.length ed] 31)).alloc (.cells #[.string q.pr.1, .string q.pr.2, .string q.act.1, .string q.act.2, .string q.res.1, .string q.res.2, .int .i64 vk, .bool vb, .int .i64 vn, .string vs, .string vt, .string vu, .slice vA vl vc, .slice vB vm vd] 38)).alloc (.cells zeroCells.toArray 28)) [.int .i64 eo, .int .i64 lk, .bool lb, .int .i64 ln, .string ls, .string lt, .string lu, .slice lA ll lc, .slice lB lm ld, .string en, .slice eK eks.length ec, .slice eN ens.length ed] (Nat.le_refl _) hd (HXe.out.ext HX0.out)
  rw [hdp] at hc HD0
  have HC := Lib.hid hc
  clear hc hdp he hq hst hsm hqd hl hd hres
  go_enter Tryd.func7, Tryd.ntmps7
  go_wp2_with (first | (with_reducible refine at_load ?_; refine wpList_load_cells rfl 31 _ rfl w.heap.size 0 rfl Tryd.aggEx Tryd.sizeEx (cs := [.int .i64 eo, .int .i64 lk, .bool lb, .int .i64 ln, .string ls, .string lt, .string lu, .slice lA ll lc, .slice lB lm ld, .string en, .slice eK eks.length ec, .slice eN ens.length ed]) rfl (cells_of_row HE0.out) ?_))
  refine HC.out.mono ?_
  rintro e1 w1 ⟨rfl, hx1⟩
  have HX1 := Lib.hid (HX0.out.trans hx1)
  have HR1 := Lib.hid ((hx1.block _ (Blk_lt HR0.out)).trans HR0.out)
  have HE1 := Lib.hid ((hx1.block _ (Blk_lt HE0.out)).trans HE0.out)
  have HQ1 := Lib.hid ((hx1.block _ (Blk_lt HQ0.out)).trans HQ0.out)
  clear hx1 HC
  by_cases h50 : 50 < dp
  · have t0 : decide ((50 : Int) < (dp : Int)) = true := by simp; omega
    have hh : res = (.zero, 11) := by rw [HD0.out, if_pos h50]; rfl
    subst hh
    clear h50
    go_wp2_with ((with_reducible refine at_store ?_; refine wpList_store_cells rfl 28 _ _ rfl (w.heap.size + 2) 0 rfl zeroCells rfl Tryd.size27 rfl 28 zeroCells.toArray HR1.out (by simp [zeroCells]) zero_one ?_))
    exact bodyPost_ret (v := .tuple #[.agg (show List Value from zeroCells).toArray, .int .i64 11]) (results_cell Tryd.results7 rfl Tryd.agg27 Tryd.size27 rfl (cellsAt_setRow HR1.out (by simp [zeroCells]))) rfl ⟨zeroCells, rfl, Val.zero_at _ _, HX1.out.setRow (by omega) _⟩
  have t0 : decide ((50 : Int) < (dp : Int)) = false := by simp; omega
  have hh : (Exp.mk eo ev en eks ens).ev q c = res := by rw [HD0.out, if_neg h50]
  have HHh := Lib.hid hh
  clear h50 hh
  have HR2 := Lib.hid ((heap_alloc_old w1 (.cells #[.string q.pr.1, .string q.pr.2, .string q.act.1, .string q.act.2, .string q.res.1, .string q.res.2, .int .i64 vk, .bool vb, .int .i64 vn, .string vs, .string vt, .string vu, .slice vA vl vc, .slice vB vm vd, (.pointer (some ⟨sg, 0, none⟩))] 53) (Blk_lt HR1.out)).trans HR1.out)
  have HE2 := Lib.hid ((heap_alloc_old w1 (.cells #[.string q.pr.1, .string q.pr.2, .string q.act.1, .string q.act.2, .string q.res.1, .string q.res.2, .int .i64 vk, .bool vb, .int .i64 vn, .string vs, .string vt, .string vu, .slice vA vl vc, .slice vB vm vd, (.pointer (some ⟨sg, 0, none⟩))] 53) (Blk_lt HE1.out)).trans HE1.out)
  have HX2 := Lib.hid (HX1.out.alloc (.cells #[.string q.pr.1, .string q.pr.2, .string q.act.1, .string q.act.2, .string q.res.1, .string q.res.2, .int .i64 vk, .bool vb, .int .i64 vn, .string vs, .string vt, .string vu, .slice vA vl vc, .slice vB vm vd, (.pointer (some ⟨sg, 0, none⟩))] 53))
  have HG2 := Lib.hid (heap_alloc_new w1 (.cells #[.string q.pr.1, .string q.pr.2, .string q.act.1, .string q.act.2, .string q.res.1, .string q.res.2, .int .i64 vk, .bool vb, .int .i64 vn, .string vs, .string vt, .string vu, .slice vA vl vc, .slice vB vm vd, (.pointer (some ⟨sg, 0, none⟩))] 53))
  have Hlow : Hid (w.heap.size + 3 ≤ w1.heap.size) := Lib.hid (by have := Blk_lt HR1.out; omega)
  have hrk : Rk q c (w1.alloc (.cells #[.string q.pr.1, .string q.pr.2, .string q.act.1, .string q.act.2, .string q.res.1, .string q.res.2, .int .i64 vk, .bool vb, .int .i64 vn, .string vs, .string vt, .string vu, .slice vA vl vc, .slice vB vm vd, (.pointer (some ⟨sg, 0, none⟩))] 53)) w1.heap.size := ⟨[.string q.pr.1, .string q.pr.2, .string q.act.1, .string q.act.2, .string q.res.1, .string q.res.2, .int .i64 vk, .bool vb, .int .i64 vn, .string vs, .string vt, .string vu, .slice vA vl vc, .slice vB vm vd], (.pointer (some ⟨sg, 0, none⟩)), rfl, HG2.out, HQ.out.ext HX2.out, HSt.out.ext HX2.out, HQd.out, HSm.out.ext HX2.out⟩
  have hc := hev (SizeOf.sizeOf (Exp.mk eo ev en eks ens)) (Exp.mk eo ev en eks ens) w1.heap.size (w1.alloc (.cells #[.string q.pr.1, .string q.pr.2, .string q.act.1, .string q.act.2, .string q.res.1, .string q.res.2, .int .i64 vk, .bool vb, .int .i64 vn, .string vs, .string vt, .string vu, .slice vA vl vc, .slice vB vm vd, (.pointer (some ⟨sg, 0, none⟩))] 53)) [.int .i64 eo, .int .i64 lk, .bool lb, .int .i64 ln, .string ls, .string lt, .string lu, .slice lA ll lc, .slice lB lm ld, .string en, .slice eK eks.length ec, .slice eN ens.length ed] (Nat.le_refl _) HLi.out hrk (HXe.out.ext HX2.out)
  rw [HHh.out] at hc
  have HC := Lib.hid hc
  clear hc hrk hev
  go_wp2_with (first | (with_reducible refine at_load ?_; refine wpList_load_cells rfl 31 _ rfl w.heap.size 0 rfl Tryd.aggEx Tryd.sizeEx (cs := [.int .i64 eo, .int .i64 lk, .bool lb, .int .i64 ln, .string ls, .string lt, .string lu, .slice lA ll lc, .slice lB lm ld, .string en, .slice eK eks.length ec, .slice eN ens.length ed]) rfl (cells_of_row HE2.out) ?_) | (with_reducible refine at_load ?_; refine wpList_load_cells rfl 31 _ rfl w.heap.size 0 rfl Tryd.aggEx Tryd.sizeEx (cs := [.int .i64 eo, .int .i64 lk, .bool lb, .int .i64 ln, .string ls, .string lt, .string lu, .slice lA ll lc, .slice lB lm ld, .string en, .slice eK eks.length ec, .slice eN ens.length ed]) rfl (cells_of_row HE1.out) ?_) | (with_reducible refine at_load ?_; refine wpList_load_cells rfl 38 _ rfl (w.heap.size + 1) 0 rfl Tryd.aggQ Tryd.sizeQ (cs := [.string q.pr.1, .string q.pr.2, .string q.act.1, .string q.act.2, .string q.res.1, .string q.res.2, .int .i64 vk, .bool vb, .int .i64 vn, .string vs, .string vt, .string vu, .slice vA vl vc, .slice vB vm vd]) rfl (cells_of_row HQ1.out) ?_))
  refine (HC.out).mono ?_
  rintro e9 w9 ⟨cv, rfl, hv, hx9⟩
  have hh : res = res := rfl
  rw [← hh] at hv ⊢
  obtain ⟨z, ez⟩ := res
  obtain ⟨zk, zb, zn, zs, zt, zu, zi, zm⟩ := z
  obtain ⟨zA, zc, zB, zd, rfl⟩ := hv.opened
  have HX9 := Lib.hid (HX2.out.trans hx9)
  have HXr := Lib.hid (Ext.refl w9)
  have HR9 := Lib.hid ((hx9.block _ (Blk_lt HR2.out)).trans HR2.out)
  have HV9 := Lib.hid hv
  clear hv hx9 hh
  go_wp2_with ((with_reducible refine at_store ?_; refine wpList_store_cells rfl 28 _ _ rfl (w.heap.size + 2) 0 rfl [.int .i64 zk, .bool zb, .int .i64 zn, .string zs, .string zt, .string zu, .slice zA zi.length zc, .slice zB zm.length zd] rfl Tryd.size27 rfl 28 zeroCells.toArray HR9.out (by simp [zeroCells]) HV9.out.one ?_))
  exact bodyPost_ret (v := .tuple #[.agg (show List Value from [.int .i64 zk, .bool zb, .int .i64 zn, .string zs, .string zt, .string zu, .slice zA zi.length zc, .slice zB zm.length zd]).toArray, .int .i64 ez]) (results_cell Tryd.results7 rfl Tryd.agg27 Tryd.size27 rfl (cellsAt_setRow HR9.out (by simp [zeroCells]))) rfl ⟨[.int .i64 zk, .bool zb, .int .i64 zn, .string zs, .string zt, .string zu, .slice zA zi.length zc, .slice zB zm.length zd], rfl, ret_at HV9.out HXr.out (by have := Hlow.out; simp <;> omega) (by have := Hlow.out; simp <;> omega) _, HX9.out.setRow (by omega) _⟩
/-- what an expression comes to, with these operators -/
theorem evalA_ok {A : Int → Prop} {q : Req} {c : List Ent} (hev : ∀ n, EvOf A q c n) (e : Exp) (w : World) (cs qc : List Value) (pv : Value) (hd : e.dep ≤ 1000000) (hl : e.fine A) (he : InX w e cs) (hq : InR w q qc) (hst : StoreV w pv c) (hqd : q.ctx.dep ≤ 1000000) (hsm : Sums w) :
    Calls Tryd.prog 7 #[.agg cs.toArray, .agg qc.toArray, pv] w (ValErr (e.eval q c).1 (e.eval q c).2 w) := by
  rcases id hst with ⟨rfl, _⟩ | ⟨sg, rfl, _⟩
  · exact evalM_none hev e w cs qc hd hl he hq hst hqd hsm
  · exact evalM_some hev e w cs qc sg hd hl he hq hst hqd hsm
end Go.Proofs.YtebfoimbdljbmaaDoor
