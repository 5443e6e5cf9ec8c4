/-
  What an expression comes to, as the program has it. The conditions: what is handed in lies in memory as it should; the entities' attributes are not deep.
-/
import Derived.Test.YtebfoimbdljbmaaGreatDoorEvDQ
namespace Go.Proofs.YtebfoimbdljbmaaGreatDoor
open Go.RowKit
open Lib renaming hid → q_
set_option maxRecDepth 100000
set_option maxHeartbeats 4000000
def Few3 (op : Int) : Prop := op = 1 ∨ op = 4 ∨ op = 11
theorem evF_ok {q : Req} {c : List Ent} : ∀ n, EvOf Few3 q c n
 | 0 => fun e g w cs hn => by cases e; simp at hn
 | n + 1 => fun e g w cs hn hl hr he => by
  have ih := evF_ok (q := q) (c := c) n
  cases hb : zcu e.op e.kids.length e.names.length with
  | true => exact eval_bad ih e g w cs hb hn hl hr he
  | false =>
   rcases (Exp.fine_iff.1 hl).1 with h | h | h
   ·exact eval_lit ih e g w cs h hb hn hl hr he
   ·exact eval_and ih e g w cs h hb hn hl hr he
   ·exact eval_two ih e g w cs (.inr <| .inr <| .inr <| .inl h) hb (fun S a b W ca cb hS hr ha hb => by rw [h]; exact two_11 S a b g W ca cb hS hr ha hb) hn hl hr he
theorem Tryz.aggQ : ∀ w, (isAgg 34).run Tryz.prog w = .ok true w := fun _ => by kernel_rfl
theorem Tryz.sizeQ : ∀ w, (Go.sizeOf 34).run Tryz.prog w = .ok 14 w := fun _ => by kernel_rfl
theorem evalM_none {A : Int → Prop} {q : Req} {c : List Ent} (hev : ∀ n, EvOf A q c n) (e : Exp) (w : World) (cs qc : List Value) (hd : e.dep ≤ 1000000) (hl : e.fine A) (he : InX w e cs) (hq : InR w q qc) (hst : StoreV w (.pointer none) c) (hqd : q.ctx.dep ≤ 1000000) (hsm : Sums w) :
  Calls Tryz.prog 13 #[.agg cs.toArray, .agg qc.toArray, (.pointer none)] w (zb0 (e.eval q c).1 (e.eval q c).2 w) := by
 have HXe := q_ he
 have HQ := q_ hq
 have HSt := q_ hst
 have HSm := q_ hsm
 have HQd := q_ hqd
 have HLi := q_ hl
 have HD0 := q_ (show e.eval q c = if 50 < e.dep then no 11 else e.ev q c from rfl)
 obtain ⟨dp, hdp⟩ : ∃ d, e.dep = d := ⟨_, rfl⟩
 have HDp := q_ hdp
 obtain ⟨vk, vb, vn, vs, vt, vu, vA, vl, vc, vB, vm, vd, rfl, _⟩ := hq.shape
 obtain ⟨eo, ev, en, eks, ens⟩ := e
 obtain ⟨lk, lb, ln, ls, lt, lu, lA, ll, lc, lB, lm, ld, eK, ec, eN, ed, hcs, _⟩ := Exp.At.shape he
 obtain rfl : cs = [.int .i64 eo, .int .i64 lk, .bool lb, .int .i64 ln, .string ls, .string lt, .string lu, .slice lA ll lc, .slice lB lm ld, .string en, .slice eK eks.length ec, .slice eN ens.length ed] := hcs
 obtain ⟨res, hres⟩ : ∃ res, (Exp.mk eo ev en eks ens).eval q c = res := ⟨_, rfl⟩
 rw [hres] at HD0 ⊢
 obtain ⟨p0, p1, p2, ps, px⟩ := zdn w (.cells #[.int .i64 eo, .int .i64 lk, .bool lb, .int .i64 ln, .string ls, .string lt, .string lu, .slice lA ll lc, .slice lB lm ld, .string en, .slice eK eks.length ec, .slice eN ens.length ed] 30) (.cells #[.string q.pr.1, .string q.pr.2, .string q.act.1, .string q.act.2, .string q.res.1, .string q.res.2, .int .i64 vk, .bool vb, .int .i64 vn, .string vs, .string vt, .string vu, .slice vA vl vc, .slice vB vm vd] 34) (.cells zeroCells.toArray 27)
 have HE0 := q_ p0
 have HQ0 := q_ p1
 have HR0 := q_ p2
 have HX0 := q_ px
 clear p0 p1 p2 ps px
 have hc := depthE_ok (SizeOf.sizeOf (Exp.mk eo ev en eks ens)) (Exp.mk eo ev en eks ens) (((w.alloc (.cells #[.int .i64 eo, .int .i64 lk, .bool lb, .int .i64 ln, .string ls, .string lt, .string lu, .slice lA ll lc, .slice lB lm ld, .string en, .slice eK eks.length ec, .slice eN ens.length ed] 30)).alloc (.cells #[.string q.pr.1, .string q.pr.2, .string q.act.1, .string q.act.2, .string q.res.1, .string q.res.2, .int .i64 vk, .bool vb, .int .i64 vn, .string vs, .string vt, .string vu, .slice vA vl vc, .slice vB vm vd] 34)).alloc (.cells zeroCells.toArray 27)) [.int .i64 eo, .int .i64 lk, .bool lb, .int .i64 ln, .string ls, .string lt, .string lu, .slice lA ll lc, .slice lB lm ld, .string en, .slice eK eks.length ec, .slice eN ens.length ed] (Nat.le_refl _) hd (HXe.out.ext HX0.out)
 rw [hdp] at hc HD0
 have HC := q_ hc
 clear hc hdp he hq hst hsm hqd hl hd hres
 go_enter Tryz.func13, Tryz.ntmps13
 go_wp2_with (first | (with_reducible refine zaw ?_; refine zab rfl 30 _ rfl w.heap.size 0 rfl zar zao (cs := [.int .i64 eo, .int .i64 lk, .bool lb, .int .i64 ln, .string ls, .string lt, .string lu, .slice lA ll lc, .slice lB lm ld, .string en, .slice eK eks.length ec, .slice eN ens.length ed]) rfl (zak HE0.out) ?_))
 refine HC.out.mono ?_
 rintro e1 w1 ⟨rfl, hx1⟩
 have HX1 := q_ (HX0.out.trans hx1)
 have HR1 := q_ ((hx1.block _ (zaf HR0.out)).trans HR0.out)
 have HE1 := q_ ((hx1.block _ (zaf HE0.out)).trans HE0.out)
 have HQ1 := q_ ((hx1.block _ (zaf HQ0.out)).trans HQ0.out)
 clear hx1 HC
 by_cases h50 : 50 < dp
 ·have t0 : decide ((50 : Int) < (dp : Int)) = true := by simp; omega
  have hh : res = (.zero, 11) := by rw [HD0.out, if_pos h50]; rfl
  subst hh
  clear h50
  go_wp2_with ((with_reducible refine za4 ?_; refine zad rfl 27 _ _ rfl (w.heap.size + 2) 0 rfl zeroCells rfl zaa rfl 27 zeroCells.toArray HR1.out (by simp [zeroCells]) za2 ?_))
  exact bodyPost_ret (v := .tuple #[.agg (show List Value from zeroCells).toArray, .int .i64 11]) (zah Tryz.results13 rfl zae zaa rfl (zai HR1.out (by simp [zeroCells]))) rfl ⟨zeroCells, rfl, Val.zero_at _ _, HX1.out.setRow (by omega) _⟩
 have t0 : decide ((50 : Int) < (dp : Int)) = false := by simp; omega
 have hh : (Exp.mk eo ev en eks ens).ev q c = res := by rw [HD0.out, if_neg h50]
 have HHh := q_ hh
 clear h50 hh
 have HR2 := q_ ((heap_alloc_old w1 (.cells #[.string q.pr.1, .string q.pr.2, .string q.act.1, .string q.act.2, .string q.res.1, .string q.res.2, .int .i64 vk, .bool vb, .int .i64 vn, .string vs, .string vt, .string vu, .slice vA vl vc, .slice vB vm vd, (.pointer none)] 80) (zaf HR1.out)).trans HR1.out)
 have HE2 := q_ ((heap_alloc_old w1 (.cells #[.string q.pr.1, .string q.pr.2, .string q.act.1, .string q.act.2, .string q.res.1, .string q.res.2, .int .i64 vk, .bool vb, .int .i64 vn, .string vs, .string vt, .string vu, .slice vA vl vc, .slice vB vm vd, (.pointer none)] 80) (zaf HE1.out)).trans HE1.out)
 have HX2 := q_ (HX1.out.alloc (.cells #[.string q.pr.1, .string q.pr.2, .string q.act.1, .string q.act.2, .string q.res.1, .string q.res.2, .int .i64 vk, .bool vb, .int .i64 vn, .string vs, .string vt, .string vu, .slice vA vl vc, .slice vB vm vd, (.pointer none)] 80))
 have HG2 := q_ (heap_alloc_new w1 (.cells #[.string q.pr.1, .string q.pr.2, .string q.act.1, .string q.act.2, .string q.res.1, .string q.res.2, .int .i64 vk, .bool vb, .int .i64 vn, .string vs, .string vt, .string vu, .slice vA vl vc, .slice vB vm vd, (.pointer none)] 80))
 have Hlow : Hid (w.heap.size + 3 ≤ w1.heap.size) := q_ (by have := zaf HR1.out; omega)
 have hrk : Rk q c (w1.alloc (.cells #[.string q.pr.1, .string q.pr.2, .string q.act.1, .string q.act.2, .string q.res.1, .string q.res.2, .int .i64 vk, .bool vb, .int .i64 vn, .string vs, .string vt, .string vu, .slice vA vl vc, .slice vB vm vd, (.pointer none)] 80)) w1.heap.size := ⟨[.string q.pr.1, .string q.pr.2, .string q.act.1, .string q.act.2, .string q.res.1, .string q.res.2, .int .i64 vk, .bool vb, .int .i64 vn, .string vs, .string vt, .string vu, .slice vA vl vc, .slice vB vm vd], (.pointer none), rfl, HG2.out, HQ.out.ext HX2.out, HSt.out.ext HX2.out, HQd.out, HSm.out.ext HX2.out⟩
 have hc := hev (SizeOf.sizeOf (Exp.mk eo ev en eks ens)) (Exp.mk eo ev en eks ens) w1.heap.size (w1.alloc (.cells #[.string q.pr.1, .string q.pr.2, .string q.act.1, .string q.act.2, .string q.res.1, .string q.res.2, .int .i64 vk, .bool vb, .int .i64 vn, .string vs, .string vt, .string vu, .slice vA vl vc, .slice vB vm vd, (.pointer none)] 80)) [.int .i64 eo, .int .i64 lk, .bool lb, .int .i64 ln, .string ls, .string lt, .string lu, .slice lA ll lc, .slice lB lm ld, .string en, .slice eK eks.length ec, .slice eN ens.length ed] (Nat.le_refl _) HLi.out hrk (HXe.out.ext HX2.out)
 rw [HHh.out] at hc
 have HC := q_ hc
 clear hc hrk hev
 go_wp2_with (first | (with_reducible refine zaw ?_; refine zab rfl 30 _ rfl w.heap.size 0 rfl zar zao (cs := [.int .i64 eo, .int .i64 lk, .bool lb, .int .i64 ln, .string ls, .string lt, .string lu, .slice lA ll lc, .slice lB lm ld, .string en, .slice eK eks.length ec, .slice eN ens.length ed]) rfl (zak HE2.out) ?_) | (with_reducible refine zaw ?_; refine zab rfl 30 _ rfl w.heap.size 0 rfl zar zao (cs := [.int .i64 eo, .int .i64 lk, .bool lb, .int .i64 ln, .string ls, .string lt, .string lu, .slice lA ll lc, .slice lB lm ld, .string en, .slice eK eks.length ec, .slice eN ens.length ed]) rfl (zak HE1.out) ?_) | (with_reducible refine zaw ?_; refine zab rfl 34 _ rfl (w.heap.size + 1) 0 rfl Tryz.aggQ Tryz.sizeQ (cs := [.string q.pr.1, .string q.pr.2, .string q.act.1, .string q.act.2, .string q.res.1, .string q.res.2, .int .i64 vk, .bool vb, .int .i64 vn, .string vs, .string vt, .string vu, .slice vA vl vc, .slice vB vm vd]) rfl (zak HQ1.out) ?_))
 refine (HC.out).mono ?_
 rintro e9 w9 ⟨cv, rfl, hv, hx9⟩
 have hh : res = res := rfl
 rw [← hh] at hv ⊢
 obtain ⟨z, ez⟩ := res
 obtain ⟨zk, zb, zn, zs, zt, zu, zi, zm⟩ := z
 obtain ⟨zA, zc, zB, zd, rfl⟩ := hv.opened
 have HX9 := q_ (HX2.out.trans hx9)
 have HXr := q_ (Ext.refl w9)
 have HR9 := q_ ((hx9.block _ (zaf HR2.out)).trans HR2.out)
 have HV9 := q_ hv
 clear hv hx9 hh
 go_wp2_with ((with_reducible refine za4 ?_; refine zad rfl 27 _ _ rfl (w.heap.size + 2) 0 rfl [.int .i64 zk, .bool zb, .int .i64 zn, .string zs, .string zt, .string zu, .slice zA zi.length zc, .slice zB zm.length zd] rfl zaa rfl 27 zeroCells.toArray HR9.out (by simp [zeroCells]) HV9.out.one ?_))
 exact bodyPost_ret (v := .tuple #[.agg (show List Value from [.int .i64 zk, .bool zb, .int .i64 zn, .string zs, .string zt, .string zu, .slice zA zi.length zc, .slice zB zm.length zd]).toArray, .int .i64 ez]) (zah Tryz.results13 rfl zae zaa rfl (zai HR9.out (by simp [zeroCells]))) rfl ⟨[.int .i64 zk, .bool zb, .int .i64 zn, .string zs, .string zt, .string zu, .slice zA zi.length zc, .slice zB zm.length zd], rfl, ret_at HV9.out HXr.out (by have := Hlow.out; simp <;> omega) (by have := Hlow.out; simp <;> omega) _, HX9.out.setRow (by omega) _⟩
theorem evalM_some {A : Int → Prop} {q : Req} {c : List Ent} (hev : ∀ n, EvOf A q c n) (e : Exp) (w : World) (cs qc : List Value) (sg : Nat) (hd : e.dep ≤ 1000000) (hl : e.fine A) (he : InX w e cs) (hq : InR w q qc) (hst : StoreV w (.pointer (some ⟨sg, 0, none⟩)) c) (hqd : q.ctx.dep ≤ 1000000) (hsm : Sums w) :
  Calls Tryz.prog 13 #[.agg cs.toArray, .agg qc.toArray, (.pointer (some ⟨sg, 0, none⟩))] w (zb0 (e.eval q c).1 (e.eval q c).2 w) := by
 have HXe := q_ he
 have HQ := q_ hq
 have HSt := q_ hst
 have HSm := q_ hsm
 have HQd := q_ hqd
 have HLi := q_ hl
 have HD0 := q_ (show e.eval q c = if 50 < e.dep then no 11 else e.ev q c from rfl)
 obtain ⟨dp, hdp⟩ : ∃ d, e.dep = d := ⟨_, rfl⟩
 have HDp := q_ hdp
 obtain ⟨vk, vb, vn, vs, vt, vu, vA, vl, vc, vB, vm, vd, rfl, _⟩ := hq.shape
 obtain ⟨eo, ev, en, eks, ens⟩ := e
 obtain ⟨lk, lb, ln, ls, lt, lu, lA, ll, lc, lB, lm, ld, eK, ec, eN, ed, hcs, _⟩ := Exp.At.shape he
 obtain rfl : cs = [.int .i64 eo, .int .i64 lk, .bool lb, .int .i64 ln, .string ls, .string lt, .string lu, .slice lA ll lc, .slice lB lm ld, .string en, .slice eK eks.length ec, .slice eN ens.length ed] := hcs
 obtain ⟨res, hres⟩ : ∃ res, (Exp.mk eo ev en eks ens).eval q c = res := ⟨_, rfl⟩
 rw [hres] at HD0 ⊢
 obtain ⟨p0, p1, p2, ps, px⟩ := zdn w (.cells #[.int .i64 eo, .int .i64 lk, .bool lb, .int .i64 ln, .string ls, .string lt, .string lu, .slice lA ll lc, .slice lB lm ld, .string en, .slice eK eks.length ec, .slice eN ens.length ed] 30) (.cells #[.string q.pr.1, .string q.pr.2, .string q.act.1, .string q.act.2, .string q.res.1, .string q.res.2, .int .i64 vk, .bool vb, .int .i64 vn, .string vs, .string vt, .string vu, .slice vA vl vc, .slice vB vm vd] 34) (.cells zeroCells.toArray 27)
 have HE0 := q_ p0
 have HQ0 := q_ p1
 have HR0 := q_ p2
 have HX0 := q_ px
 clear p0 p1 p2 ps px
 have hc := depthE_ok (SizeOf.sizeOf (Exp.mk eo ev en eks ens)) (Exp.mk eo ev en eks ens) (((w.alloc (.cells #[.int .i64 eo, .int .i64 lk, .bool lb, .int .i64 ln, .string ls, .string lt, .string lu, .slice lA ll lc, .slice lB lm ld, .string en, .slice eK eks.length ec, .slice eN ens.length ed] 30)).alloc (.cells #[.string q.pr.1, .string q.pr.2, .string q.act.1, .string q.act.2, .string q.res.1, .string q.res.2, .int .i64 vk, .bool vb, .int .i64 vn, .string vs, .string vt, .string vu, .slice vA vl vc, .slice vB vm vd] 34)).alloc (.cells zeroCells.toArray 27)) [.int .i64 eo, .int .i64 lk, .bool lb, .int .i64 ln, .string ls, .string lt, .string lu, .slice lA ll lc, .slice lB lm ld, .string en, .slice eK eks.length ec, .slice eN ens.length ed] (Nat.le_refl _) hd (HXe.out.ext HX0.out)
 rw [hdp] at hc HD0
 have HC := q_ hc
 clear hc hdp he hq hst hsm hqd hl hd hres
 go_enter Tryz.func13, Tryz.ntmps13
 go_wp2_with (first | (with_reducible refine zaw ?_; refine zab rfl 30 _ rfl w.heap.size 0 rfl zar zao (cs := [.int .i64 eo, .int .i64 lk, .bool lb, .int .i64 ln, .string ls, .string lt, .string lu, .slice lA ll lc, .slice lB lm ld, .string en, .slice eK eks.length ec, .slice eN ens.length ed]) rfl (zak HE0.out) ?_))
 refine HC.out.mono ?_
 rintro e1 w1 ⟨rfl, hx1⟩
 have HX1 := q_ (HX0.out.trans hx1)
 have HR1 := q_ ((hx1.block _ (zaf HR0.out)).trans HR0.out)
 have HE1 := q_ ((hx1.block _ (zaf HE0.out)).trans HE0.out)
 have HQ1 := q_ ((hx1.block _ (zaf HQ0.out)).trans HQ0.out)
 clear hx1 HC
 by_cases h50 : 50 < dp
 ·have t0 : decide ((50 : Int) < (dp : Int)) = true := by simp; omega
  have hh : res = (.zero, 11) := by rw [HD0.out, if_pos h50]; rfl
  subst hh
  clear h50
  go_wp2_with ((with_reducible refine za4 ?_; refine zad rfl 27 _ _ rfl (w.heap.size + 2) 0 rfl zeroCells rfl zaa rfl 27 zeroCells.toArray HR1.out (by simp [zeroCells]) za2 ?_))
  exact bodyPost_ret (v := .tuple #[.agg (show List Value from zeroCells).toArray, .int .i64 11]) (zah Tryz.results13 rfl zae zaa rfl (zai HR1.out (by simp [zeroCells]))) rfl ⟨zeroCells, rfl, Val.zero_at _ _, HX1.out.setRow (by omega) _⟩
 have t0 : decide ((50 : Int) < (dp : Int)) = false := by simp; omega
 have hh : (Exp.mk eo ev en eks ens).ev q c = res := by rw [HD0.out, if_neg h50]
 have HHh := q_ hh
 clear h50 hh
 have HR2 := q_ ((heap_alloc_old w1 (.cells #[.string q.pr.1, .string q.pr.2, .string q.act.1, .string q.act.2, .string q.res.1, .string q.res.2, .int .i64 vk, .bool vb, .int .i64 vn, .string vs, .string vt, .string vu, .slice vA vl vc, .slice vB vm vd, (.pointer (some ⟨sg, 0, none⟩))] 80) (zaf HR1.out)).trans HR1.out)
 have HE2 := q_ ((heap_alloc_old w1 (.cells #[.string q.pr.1, .string q.pr.2, .string q.act.1, .string q.act.2, .string q.res.1, .string q.res.2, .int .i64 vk, .bool vb, .int .i64 vn, .string vs, .string vt, .string vu, .slice vA vl vc, .slice vB vm vd, (.pointer (some ⟨sg, 0, none⟩))] 80) (zaf HE1.out)).trans HE1.out)
 have HX2 := q_ (HX1.out.alloc (.cells #[.string q.pr.1, .string q.pr.2, .string q.act.1, .string q.act.2, .string q.res.1, .string q.res.2, .int .i64 vk, .bool vb, .int .i64 vn, .string vs, .string vt, .string vu, .slice vA vl vc, .slice vB vm vd, (.pointer (some ⟨sg, 0, none⟩))] 80))
 have HG2 := q_ (heap_alloc_new w1 (.cells #[.string q.pr.1, .string q.pr.2, .string q.act.1, .string q.act.2, .string q.res.1, .string q.res.2, .int .i64 vk, .bool vb, .int .i64 vn, .string vs, .string vt, .string vu, .slice vA vl vc, .slice vB vm vd, (.pointer (some ⟨sg, 0, none⟩))] 80))
 have Hlow : Hid (w.heap.size + 3 ≤ w1.heap.size) := q_ (by have := zaf HR1.out; omega)
 have hrk : Rk q c (w1.alloc (.cells #[.string q.pr.1, .string q.pr.2, .string q.act.1, .string q.act.2, .string q.res.1, .string q.res.2, .int .i64 vk, .bool vb, .int .i64 vn, .string vs, .string vt, .string vu, .slice vA vl vc, .slice vB vm vd, (.pointer (some ⟨sg, 0, none⟩))] 80)) w1.heap.size := ⟨[.string q.pr.1, .string q.pr.2, .string q.act.1, .string q.act.2, .string q.res.1, .string q.res.2, .int .i64 vk, .bool vb, .int .i64 vn, .string vs, .string vt, .string vu, .slice vA vl vc, .slice vB vm vd], (.pointer (some ⟨sg, 0, none⟩)), rfl, HG2.out, HQ.out.ext HX2.out, HSt.out.ext HX2.out, HQd.out, HSm.out.ext HX2.out⟩
 have hc := hev (SizeOf.sizeOf (Exp.mk eo ev en eks ens)) (Exp.mk eo ev en eks ens) w1.heap.size (w1.alloc (.cells #[.string q.pr.1, .string q.pr.2, .string q.act.1, .string q.act.2, .string q.res.1, .string q.res.2, .int .i64 vk, .bool vb, .int .i64 vn, .string vs, .string vt, .string vu, .slice vA vl vc, .slice vB vm vd, (.pointer (some ⟨sg, 0, none⟩))] 80)) [.int .i64 eo, .int .i64 lk, .bool lb, .int .i64 ln, .string ls, .string lt, .string lu, .slice lA ll lc, .slice lB lm ld, .string en, .slice eK eks.length ec, .slice eN ens.length ed] (Nat.le_refl _) HLi.out hrk (HXe.out.ext HX2.out)
 rw [HHh.out] at hc
 have HC := q_ hc
 clear hc hrk hev
 go_wp2_with (first | (with_reducible refine zaw ?_; refine zab rfl 30 _ rfl w.heap.size 0 rfl zar zao (cs := [.int .i64 eo, .int .i64 lk, .bool lb, .int .i64 ln, .string ls, .string lt, .string lu, .slice lA ll lc, .slice lB lm ld, .string en, .slice eK eks.length ec, .slice eN ens.length ed]) rfl (zak HE2.out) ?_) | (with_reducible refine zaw ?_; refine zab rfl 30 _ rfl w.heap.size 0 rfl zar zao (cs := [.int .i64 eo, .int .i64 lk, .bool lb, .int .i64 ln, .string ls, .string lt, .string lu, .slice lA ll lc, .slice lB lm ld, .string en, .slice eK eks.length ec, .slice eN ens.length ed]) rfl (zak HE1.out) ?_) | (with_reducible refine zaw ?_; refine zab rfl 34 _ rfl (w.heap.size + 1) 0 rfl Tryz.aggQ Tryz.sizeQ (cs := [.string q.pr.1, .string q.pr.2, .string q.act.1, .string q.act.2, .string q.res.1, .string q.res.2, .int .i64 vk, .bool vb, .int .i64 vn, .string vs, .string vt, .string vu, .slice vA vl vc, .slice vB vm vd]) rfl (zak HQ1.out) ?_))
 refine (HC.out).mono ?_
 rintro e9 w9 ⟨cv, rfl, hv, hx9⟩
 have hh : res = res := rfl
 rw [← hh] at hv ⊢
 obtain ⟨z, ez⟩ := res
 obtain ⟨zk, zb, zn, zs, zt, zu, zi, zm⟩ := z
 obtain ⟨zA, zc, zB, zd, rfl⟩ := hv.opened
 have HX9 := q_ (HX2.out.trans hx9)
 have HXr := q_ (Ext.refl w9)
 have HR9 := q_ ((hx9.block _ (zaf HR2.out)).trans HR2.out)
 have HV9 := q_ hv
 clear hv hx9 hh
 go_wp2_with ((with_reducible refine za4 ?_; refine zad rfl 27 _ _ rfl (w.heap.size + 2) 0 rfl [.int .i64 zk, .bool zb, .int .i64 zn, .string zs, .string zt, .string zu, .slice zA zi.length zc, .slice zB zm.length zd] rfl zaa rfl 27 zeroCells.toArray HR9.out (by simp [zeroCells]) HV9.out.one ?_))
 exact bodyPost_ret (v := .tuple #[.agg (show List Value from [.int .i64 zk, .bool zb, .int .i64 zn, .string zs, .string zt, .string zu, .slice zA zi.length zc, .slice zB zm.length zd]).toArray, .int .i64 ez]) (zah Tryz.results13 rfl zae zaa rfl (zai HR9.out (by simp [zeroCells]))) rfl ⟨[.int .i64 zk, .bool zb, .int .i64 zn, .string zs, .string zt, .string zu, .slice zA zi.length zc, .slice zB zm.length zd], rfl, ret_at HV9.out HXr.out (by have := Hlow.out; simp <;> omega) (by have := Hlow.out; simp <;> omega) _, HX9.out.setRow (by omega) _⟩
theorem evalA_ok {A : Int → Prop} {q : Req} {c : List Ent} (hev : ∀ n, EvOf A q c n) (e : Exp) (w : World) (cs qc : List Value) (pv : Value) (hd : e.dep ≤ 1000000) (hl : e.fine A) (he : InX w e cs) (hq : InR w q qc) (hst : StoreV w pv c) (hqd : q.ctx.dep ≤ 1000000) (hsm : Sums w) :
  Calls Tryz.prog 13 #[.agg cs.toArray, .agg qc.toArray, pv] w (zb0 (e.eval q c).1 (e.eval q c).2 w) := by
 rcases id hst with ⟨rfl, _⟩ | ⟨sg, rfl, _⟩
 ·exact evalM_none hev e w cs qc hd hl he hq hst hqd hsm
 ·exact evalM_some hev e w cs qc sg hd hl he hq hst hqd hsm
end Go.Proofs.YtebfoimbdljbmaaGreatDoor
