/-
  EvalShort: what the statement's own function answers. The conditions: the arguments lie in memory as they should; the table of operators lies as it is laid at the start.
-/
import Derived.Test.YtebfoimbdljbmaaGreatDoorAw14Q
import Derived.Test.YtebfoimbdljbmaaGreatDoorFit14Q
import Derived.Test.YtebfoimbdljbmaaGreatDoorDepRQ
namespace Go.Proofs.YtebfoimbdljbmaaGreatDoor
open Go.RowKit

theorem i64_and3 (n : Int) : bits .and .i64 n 3 = n % 4 := by
  have h3 : (BitVec.ofInt 64 3).toNat = 2 ^ 2 - 1 := by decide
  have key : (BitVec.ofInt 64 n &&& BitVec.ofInt 64 3).toNat = (n % ((2 ^ 64 : Nat) : Int)).toNat % 2 ^ 2 := by
    rw [BitVec.toNat_and, BitVec.toNat_ofInt, h3, Nat.and_two_pow_sub_one_eq_mod]
  show IntKind.i64.wrap ((BitVec.ofInt 64 n &&& BitVec.ofInt 64 3).toNat : Nat) = n % 4
  rw [key, IntKind.wrap_i64]
  omega
mutual
theorem Exp.lits_mono {c d : Nat} (h : c ≤ d) : ∀ e : Exp, e.lits c → e.lits d
  | .mk _ v _ kids _, hl => by
    simp only [Exp.lits] at hl ⊢
    exact ⟨by omega, Exp.litsL_mono h kids hl.2⟩
theorem Exp.litsL_mono {c d : Nat} (h : c ≤ d) : ∀ l : List Exp, Exp.litsL c l → Exp.litsL d l
  | [], _ => by simp [Exp.litsL]
  | e :: r, hl => by
    simp only [Exp.litsL] at hl ⊢
    exact ⟨Exp.lits_mono h e hl.1, Exp.litsL_mono h r hl.2⟩
end
theorem keep_alloc {w : World} {o : Obj} {g : Nat} {c : Obj} (h : w.heap[g]? = some c) : (w.alloc o).heap[g]? = some c := (heap_alloc_old w o (Blk_lt h)).trans h
theorem heapA5 (w : World) (o0 o1 o2 o3 o4 : Obj) : ∃ W, W = ((((w.alloc o0).alloc o1).alloc o2).alloc o3).alloc o4 ∧ W.heap[w.heap.size]? = some o0 ∧ W.heap[w.heap.size + 1]? = some o1 ∧ W.heap[w.heap.size + 2]? = some o2 ∧ W.heap[w.heap.size + 3]? = some o3 ∧ W.heap[w.heap.size + 4]? = some o4 ∧ Ext w W := by
  refine ⟨_, rfl, ?_, ?_, ?_, ?_, ?_, (((((Ext.refl w).alloc _).alloc _).alloc _).alloc _).alloc _⟩ <;> (simp only [World.alloc, Array.getElem?_push, Array.size_push]; (repeat rw [if_neg (by omega)]); simp)
set_option maxRecDepth 100000 in
set_option maxHeartbeats 4000000 in
theorem evalShort_0s (x : Exp) (k : Int) (hk : k % 4 = 0) (hdp : x.dep + 1 ≤ 50) (W : World) (cs : List Value) (hx : InX W x cs) (hs : Sums W) :
    Calls Tryz.prog 3 #[.agg cs.toArray, .int .i64 k] W fun e W' => e = .returned (.bool true) ∧ Ext W W' := by
  have HXe := Lib.hid hx
  have HS := Lib.hid hs
  have hb : bits .and .i64 k 3 = 0 := by rw [i64_and3]; exact hk
  have HDp := Lib.hid hdp
  obtain ⟨eo, ev, en, eks, ens⟩ := x
  obtain ⟨lk, lb, ln, ls, lt, lu, lA, ll, lc, lB, lm, ld, eK, ec, eN, ed, hcs, _⟩ := Exp.At.shape hx
  obtain rfl : cs = [.int .i64 eo, .int .i64 lk, .bool lb, .int .i64 ln, .string ls, .string lt, .string lu, .slice lA ll lc, .slice lB lm ld, .string en, .slice eK eks.length ec, .slice eN ens.length ed] := hcs
  have HX0 := Lib.hid ((Ext.refl W).alloc (.cells #[.int .i64 eo, .int .i64 lk, .bool lb, .int .i64 ln, .string ls, .string lt, .string lu, .slice lA ll lc, .slice lB lm ld, .string en, .slice eK eks.length ec, .slice eN ens.length ed] 30))
  have HB0 := Lib.hid (heap_alloc_new W (.cells #[.int .i64 eo, .int .i64 lk, .bool lb, .int .i64 ln, .string ls, .string lt, .string lu, .slice lA ll lc, .slice lB lm ld, .string en, .slice eK eks.length ec, .slice eN ens.length ed] 30))
  clear hx hs hk hdp
  go_enter Tryz.func3, Tryz.ntmps3
  go_wp2_with fail
  refine (awake14_ok _ (HS.out.ext HX0.out)).mono ?_
  rintro e1 w1 ⟨rfl, hx⟩
  have HX1 := Lib.hid (HX0.out.trans hx)
  have HB1 := Lib.hid ((hx.block _ (Blk_lt HB0.out)).trans HB0.out)
  clear hx HX0 HB0
  go_wp2_with ((with_reducible refine at_load ?_; refine wpList_load_cells rfl 30 _ rfl W.heap.size 0 rfl Tryz.aggEx Tryz.sizeEx (cs := [.int .i64 eo, .int .i64 lk, .bool lb, .int .i64 ln, .string ls, .string lt, .string lu, .slice lA ll lc, .slice lB lm ld, .string en, .slice eK eks.length ec, .slice eN ens.length ed]) rfl (cells_of_row HB1.out) ?_))
  refine (fit14_ok (Exp.mk eo ev en eks ens) reqZ [] _ [.int .i64 eo, .int .i64 lk, .bool lb, .int .i64 ln, .string ls, .string lt, .string lu, .slice lA ll lc, .slice lB lm ld, .string en, .slice eK eks.length ec, .slice eN ens.length ed] reqC (.slice none 0 0) (HXe.out.ext HX1.out) (reqZ_at _ _) (Rep.RowsAt.nil _ _)).mono ?_
  rintro e2 w2 ⟨r, hr, rfl, hx⟩
  have HX2 := Lib.hid (HX1.out.trans hx)
  have HB2 := Lib.hid ((hx.block _ (Blk_lt HB1.out)).trans HB1.out)
  have HR := Lib.hid hr
  clear hx HX1 HB1 hr
  cases r with
  | false =>
    go_wp2_with fail
    go_ret
    exact ⟨rfl, HX2.out⟩
  | true =>
  have HF := Lib.hid (HR.out rfl)
  clear HR
  go_wp2_with fail
  refine ((lit_ok 1 false 0 ByteArray.empty ByteArray.empty ByteArray.empty none 0 0 none 0 0 _)).mono ?_
  rintro e3 w3 ⟨rfl, hx3⟩
  have HX3 := Lib.hid (HX2.out.trans hx3)
  have HB3 := Lib.hid ((hx3.block _ (Blk_lt HB2.out)).trans HB2.out)
  clear hx3 HX2 HB2
  go_wp2_with fail
  refine ((lit_ok 1 true 0 ByteArray.empty ByteArray.empty ByteArray.empty none 0 0 none 0 0 _)).mono ?_
  rintro e4 w4 ⟨rfl, hx4⟩
  have HF4 := Lib.hid ((hx4.block _ (by simp)).trans (heap_alloc_new w3 (.cells #[.int .i64 1, .int .i64 1, .bool false, .int .i64 0, .string ByteArray.empty, .string ByteArray.empty, .string ByteArray.empty, .slice none 0 0, .slice none 0 0, .string ByteArray.empty, .slice none 0 0, .slice none 0 0] 30)))
  have HB4 := Lib.hid ((((Ext.refl w3).alloc (.cells #[.int .i64 1, .int .i64 1, .bool false, .int .i64 0, .string ByteArray.empty, .string ByteArray.empty, .string ByteArray.empty, .slice none 0 0, .slice none 0 0, .string ByteArray.empty, .slice none 0 0, .slice none 0 0] 30)).trans hx4).block _ (Blk_lt HB3.out) |>.trans HB3.out)
  have HX4 := Lib.hid (HX3.out.trans (((Ext.refl w3).alloc (.cells #[.int .i64 1, .int .i64 1, .bool false, .int .i64 0, .string ByteArray.empty, .string ByteArray.empty, .string ByteArray.empty, .slice none 0 0, .slice none 0 0, .string ByteArray.empty, .slice none 0 0, .slice none 0 0] 30)).trans hx4))
  clear hx4 HX3 HB3
  have HFy := Lib.hid ((heap_alloc_old w4 (.cells #[.int .i64 1, .int .i64 1, .bool true, .int .i64 0, .string ByteArray.empty, .string ByteArray.empty, .string ByteArray.empty, .slice none 0 0, .slice none 0 0, .string ByteArray.empty, .slice none 0 0, .slice none 0 0] 30) (Blk_lt HF4.out)).trans HF4.out)
  have HBy := Lib.hid ((heap_alloc_old w4 (.cells #[.int .i64 1, .int .i64 1, .bool true, .int .i64 0, .string ByteArray.empty, .string ByteArray.empty, .string ByteArray.empty, .slice none 0 0, .slice none 0 0, .string ByteArray.empty, .slice none 0 0, .slice none 0 0] 30) (Blk_lt HB4.out)).trans HB4.out)
  have HTy := Lib.hid (heap_alloc_new w4 (.cells #[.int .i64 1, .int .i64 1, .bool true, .int .i64 0, .string ByteArray.empty, .string ByteArray.empty, .string ByteArray.empty, .slice none 0 0, .slice none 0 0, .string ByteArray.empty, .slice none 0 0, .slice none 0 0] 30))
  have HXy := Lib.hid (HX4.out.alloc (.cells #[.int .i64 1, .int .i64 1, .bool true, .int .i64 0, .string ByteArray.empty, .string ByteArray.empty, .string ByteArray.empty, .slice none 0 0, .slice none 0 0, .string ByteArray.empty, .slice none 0 0, .slice none 0 0] 30))
  clear HF4 HB4 HX4
  go_wp2_with (first | (with_reducible refine at_load ?_; refine wpList_load_cells rfl 30 _ rfl w3.heap.size 0 rfl Tryz.aggEx Tryz.sizeEx (cs := [.int .i64 1, .int .i64 1, .bool false, .int .i64 0, .string ByteArray.empty, .string ByteArray.empty, .string ByteArray.empty, .slice none 0 0, .slice none 0 0, .string ByteArray.empty, .slice none 0 0, .slice none 0 0]) rfl (cells_of_row (by with_reducible first | exact HFy.out | exact keep_alloc (HFy.out) | exact keep_alloc (keep_alloc (HFy.out)) | exact keep_alloc (keep_alloc (keep_alloc (HFy.out))) | exact keep_alloc (keep_alloc (keep_alloc (keep_alloc (HFy.out)))))) ?_) | (with_reducible refine at_load ?_; refine wpList_load_cells rfl 30 _ rfl W.heap.size 0 rfl Tryz.aggEx Tryz.sizeEx (cs := [.int .i64 eo, .int .i64 lk, .bool lb, .int .i64 ln, .string ls, .string lt, .string lu, .slice lA ll lc, .slice lB lm ld, .string en, .slice eK eks.length ec, .slice eN ens.length ed]) rfl (cells_of_row (by with_reducible first | exact HBy.out | exact keep_alloc (HBy.out) | exact keep_alloc (keep_alloc (HBy.out)) | exact keep_alloc (keep_alloc (keep_alloc (HBy.out))) | exact keep_alloc (keep_alloc (keep_alloc (keep_alloc (HBy.out)))))) ?_) | (with_reducible refine at_load ?_; refine wpList_load_cells rfl 30 _ rfl w4.heap.size 0 rfl Tryz.aggEx Tryz.sizeEx (cs := [.int .i64 1, .int .i64 1, .bool true, .int .i64 0, .string ByteArray.empty, .string ByteArray.empty, .string ByteArray.empty, .slice none 0 0, .slice none 0 0, .string ByteArray.empty, .slice none 0 0, .slice none 0 0]) rfl (cells_of_row (by with_reducible first | exact HTy.out | exact keep_alloc (HTy.out) | exact keep_alloc (keep_alloc (HTy.out)) | exact keep_alloc (keep_alloc (keep_alloc (HTy.out))) | exact keep_alloc (keep_alloc (keep_alloc (keep_alloc (HTy.out)))))) ?_))
  obtain ⟨w5, hW, m0, m1, m2, m3, m4, hx5⟩ := heapA5 (w4.alloc (.cells #[.int .i64 1, .int .i64 1, .bool true, .int .i64 0, .string ByteArray.empty, .string ByteArray.empty, .string ByteArray.empty, .slice none 0 0, .slice none 0 0, .string ByteArray.empty, .slice none 0 0, .slice none 0 0] 30)) (.cells #[.int .i64 1, .int .i64 1, .bool false, .int .i64 0, .string ByteArray.empty, .string ByteArray.empty, .string ByteArray.empty, .slice none 0 0, .slice none 0 0, .string ByteArray.empty, .slice none 0 0, .slice none 0 0, .int .i64 eo, .int .i64 lk, .bool lb, .int .i64 ln, .string ls, .string lt, .string lu, .slice lA ll lc, .slice lB lm ld, .string en, .slice eK eks.length ec, .slice eN ens.length ed] 30) (.cells #[.int .i64 1, .int .i64 1, .bool true, .int .i64 0, .string ByteArray.empty, .string ByteArray.empty, .string ByteArray.empty, .slice none 0 0, .slice none 0 0, .string ByteArray.empty, .slice none 0 0, .slice none 0 0, .int .i64 eo, .int .i64 lk, .bool lb, .int .i64 ln, .string ls, .string lt, .string lu, .slice lA ll lc, .slice lB lm ld, .string en, .slice eK eks.length ec, .slice eN ens.length ed] 30) (.cells #[.int .i64 1, .int .i64 1, .bool true, .int .i64 0, .string ByteArray.empty, .string ByteArray.empty, .string ByteArray.empty, .slice none 0 0, .slice none 0 0, .string ByteArray.empty, .slice none 0 0, .slice none 0 0, .int .i64 1, .int .i64 1, .bool true, .int .i64 0, .string ByteArray.empty, .string ByteArray.empty, .string ByteArray.empty, .slice none 0 0, .slice none 0 0, .string ByteArray.empty, .slice none 0 0, .slice none 0 0, .int .i64 eo, .int .i64 lk, .bool lb, .int .i64 ln, .string ls, .string lt, .string lu, .slice lA ll lc, .slice lB lm ld, .string en, .slice eK eks.length ec, .slice eN ens.length ed] 30) (.cells #[.int .i64 1, .int .i64 1, .bool false, .int .i64 0, .string ByteArray.empty, .string ByteArray.empty, .string ByteArray.empty, .slice none 0 0, .slice none 0 0, .string ByteArray.empty, .slice none 0 0, .slice none 0 0, .int .i64 eo, .int .i64 lk, .bool lb, .int .i64 ln, .string ls, .string lt, .string lu, .slice lA ll lc, .slice lB lm ld, .string en, .slice eK eks.length ec, .slice eN ens.length ed, .int .i64 1, .int .i64 1, .bool true, .int .i64 0, .string ByteArray.empty, .string ByteArray.empty, .string ByteArray.empty, .slice none 0 0, .slice none 0 0, .string ByteArray.empty, .slice none 0 0, .slice none 0 0] 30) (.cells #[.int .i64 4, .int .i64 0, .bool false, .int .i64 0, .string ⟨#[]⟩, .string ⟨#[]⟩, .string ⟨#[]⟩, .slice none 0 0, .slice none 0 0, .string ⟨#[]⟩, .slice (some ⟨w4.heap.size + 1, 0, none⟩) 2 2, .slice none 0 0, .int .i64 5, .int .i64 0, .bool false, .int .i64 0, .string ⟨#[]⟩, .string ⟨#[]⟩, .string ⟨#[]⟩, .slice none 0 0, .slice none 0 0, .string ⟨#[]⟩, .slice (some ⟨w4.heap.size + 1 + 1, 0, none⟩) 2 2, .slice none 0 0, .int .i64 7, .int .i64 0, .bool false, .int .i64 0, .string ⟨#[]⟩, .string ⟨#[]⟩, .string ⟨#[]⟩, .slice none 0 0, .slice none 0 0, .string ⟨#[]⟩, .slice (some ⟨w4.heap.size + 1 + 1 + 1, 0, none⟩) 3 3, .slice none 0 0, .int .i64 7, .int .i64 0, .bool false, .int .i64 0, .string ⟨#[]⟩, .string ⟨#[]⟩, .string ⟨#[]⟩, .slice none 0 0, .slice none 0 0, .string ⟨#[]⟩, .slice (some ⟨w4.heap.size + 1 + 1 + 1 + 1, 0, none⟩) 3 3, .slice none 0 0] 30)
  rw [← hW]
  have hsz : (w4.alloc (.cells #[.int .i64 1, .int .i64 1, .bool true, .int .i64 0, .string ByteArray.empty, .string ByteArray.empty, .string ByteArray.empty, .slice none 0 0, .slice none 0 0, .string ByteArray.empty, .slice none 0 0, .slice none 0 0] 30)).heap.size = w4.heap.size + 1 := by simp
  rw [hsz] at m0 m1 m2 m3 m4
  have HM := Lib.hid (show w5.heap[w4.heap.size + 1 + 1 + 1 + 1 + 1]? = some (.cells #[.int .i64 4, .int .i64 0, .bool false, .int .i64 0, .string ⟨#[]⟩, .string ⟨#[]⟩, .string ⟨#[]⟩, .slice none 0 0, .slice none 0 0, .string ⟨#[]⟩, .slice (some ⟨w4.heap.size + 1, 0, none⟩) 2 2, .slice none 0 0, .int .i64 5, .int .i64 0, .bool false, .int .i64 0, .string ⟨#[]⟩, .string ⟨#[]⟩, .string ⟨#[]⟩, .slice none 0 0, .slice none 0 0, .string ⟨#[]⟩, .slice (some ⟨w4.heap.size + 1 + 1, 0, none⟩) 2 2, .slice none 0 0, .int .i64 7, .int .i64 0, .bool false, .int .i64 0, .string ⟨#[]⟩, .string ⟨#[]⟩, .string ⟨#[]⟩, .slice none 0 0, .slice none 0 0, .string ⟨#[]⟩, .slice (some ⟨w4.heap.size + 1 + 1 + 1, 0, none⟩) 3 3, .slice none 0 0, .int .i64 7, .int .i64 0, .bool false, .int .i64 0, .string ⟨#[]⟩, .string ⟨#[]⟩, .string ⟨#[]⟩, .slice none 0 0, .slice none 0 0, .string ⟨#[]⟩, .slice (some ⟨w4.heap.size + 1 + 1 + 1 + 1, 0, none⟩) 3 3, .slice none 0 0] 30 (0, 0)) from m4)
  have HXw := Lib.hid (HXy.out.trans hx5)
  have hrow : w5.heap[w4.heap.size + 1]? = some (.cells (([.int .i64 1, .int .i64 1, .bool false, .int .i64 0, .string ByteArray.empty, .string ByteArray.empty, .string ByteArray.empty, .slice none 0 0, .slice none 0 0, .string ByteArray.empty, .slice none 0 0, .slice none 0 0] : List Value) ++ (([.int .i64 eo, .int .i64 lk, .bool lb, .int .i64 ln, .string ls, .string lt, .string lu, .slice lA ll lc, .slice lB lm ld, .string en, .slice eK eks.length ec, .slice eN ens.length ed] : List Value) ++ (([] : List Value)))).toArray 30 (0, 0)) := m0
  clear hW m0 m1 m2 m3 m4 hx5 hsz HXy HFy HBy HTy
  have hk : expR.RowsAt (fun b => b < w5.heap.size) w5 [.lit (.truth false), (Exp.mk eo ev en eks ens)] (.slice (some ⟨w4.heap.size + 1, 0, none⟩) 2 2) := kids_at hrow (flat_cons (cs := [.int .i64 1, .int .i64 1, .bool false, .int .i64 0, .string ByteArray.empty, .string ByteArray.empty, .string ByteArray.empty, .slice none 0 0, .slice none 0 0, .string ByteArray.empty, .slice none 0 0, .slice none 0 0]) (lit_at (truth_at _ _ false)) (flat_cons (cs := [.int .i64 eo, .int .i64 lk, .bool lb, .int .i64 ln, .string ls, .string lt, .string lu, .slice lA ll lc, .slice lB lm ld, .string en, .slice eK eks.length ec, .slice eN ens.length ed]) (Exp.At.mono (fun b hb => Nat.lt_of_lt_of_le hb HXw.out.size) _ _ (Exp.At.alike (Alike.of_ext HXw.out fun _ h => h) _ _ HXe.out)) (flat_nil))) (by rw [LIM_eq]; simp) rfl (by simp) (by rw [maxLen_eq]; omega)
  have hpos : 1 ≤ (Exp.mk eo ev en eks ens).dep := by rw [Exp.dep_def]; omega
  have hde : (Exp.of 4 [.lit (.truth false), (Exp.mk eo ev en eks ens)]).dep = (Exp.mk eo ev en eks ens).dep + 1 := by
    rw [Exp.of_dep]
    simp only [Exp.deps, Exp.lit_dep]
    omega
  have hd := HDp.out
  have hl : (Exp.of 4 [.lit (.truth false), (Exp.mk eo ev en eks ens)]).lits 1000000 := Exp.of_lits (by omega) (by
    intro y hy
    simp only [List.mem_cons, List.mem_nil_iff, or_false] at hy
    rcases hy with rfl | rfl <;> first | exact Exp.lit_lits (by decide) | exact Exp.lits_mono (by omega) _ HF.out.lits)
  have hin : InX w5 (.of 4 [.lit (.truth false), (Exp.mk eo ev en eks ens)]) (opC 4 (.slice (some ⟨w4.heap.size + 1, 0, none⟩) 2 2)) := of_at (by unfold I64; omega) hk
  have h6 := HF.out.dep
  have hc := evalZ_ok (.of 4 [.lit (.truth false), (Exp.mk eo ev en eks ens)]) (.truth false, 0) w5 (opC 4 (.slice (some ⟨w4.heap.size + 1, 0, none⟩) 2 2)) (by
    unfold Exp.eval
    rw [if_neg (by rw [hde]; omega), short_ev reqZ [] (Exp.mk eo ev en eks ens) 0 (by omega) _ rfl]; rfl) (by rw [hde]; omega) hl hin (HS.out.ext HXw.out)
  refine hc.mono ?_
  rintro e6 w6 ⟨cv, rfl, hv, hx6⟩
  obtain ⟨zA, zc, zB, zd, rfl⟩ := hv.opened
  have HC := Lib.hid (depthR_ok (SizeOf.sizeOf (Exp.of 4 [.lit (.truth false), (Exp.mk eo ev en eks ens)])) (.of 4 [.lit (.truth false), (Exp.mk eo ev en eks ens)]) (w6.alloc (.cells #[.int .i64 1, .bool false, .int .i64 0, .string ByteArray.empty, .string ByteArray.empty, .string ByteArray.empty, .slice zA 0 zc, .slice zB 0 zd] 27)) (opC 4 (.slice (some ⟨w4.heap.size + 1, 0, none⟩) 2 2)) (Nat.le_refl _) (by rw [hde]; omega) (hin.ext (hx6.alloc _)))
  obtain ⟨dp, hdp⟩ : ∃ d, (Exp.of 4 [.lit (.truth false), (Exp.mk eo ev en eks ens)]).dep = d := ⟨_, rfl⟩
  rw [hdp] at HC hde
  have t0 : decide ((50 : Int) < (dp : Int)) = false := by simp; omega
  have HM6 := Lib.hid ((heap_alloc_old w6 (.cells #[.int .i64 1, .bool false, .int .i64 0, .string ByteArray.empty, .string ByteArray.empty, .string ByteArray.empty, .slice zA 0 zc, .slice zB 0 zd] 27) (Blk_lt ((hx6.block _ (Blk_lt HM.out)).trans HM.out))).trans ((hx6.block _ (Blk_lt HM.out)).trans HM.out))
  have HCm := Lib.hid (cells_mid (pre := []) (cs := [.int .i64 4, .int .i64 0, .bool false, .int .i64 0, .string ⟨#[]⟩, .string ⟨#[]⟩, .string ⟨#[]⟩, .slice none 0 0, .slice none 0 0, .string ⟨#[]⟩, .slice (some ⟨w4.heap.size + 1, 0, none⟩) 2 2, .slice none 0 0]) (r := [.int .i64 5, .int .i64 0, .bool false, .int .i64 0, .string ⟨#[]⟩, .string ⟨#[]⟩, .string ⟨#[]⟩, .slice none 0 0, .slice none 0 0, .string ⟨#[]⟩, .slice (some ⟨w4.heap.size + 1 + 1, 0, none⟩) 2 2, .slice none 0 0, .int .i64 7, .int .i64 0, .bool false, .int .i64 0, .string ⟨#[]⟩, .string ⟨#[]⟩, .string ⟨#[]⟩, .slice none 0 0, .slice none 0 0, .string ⟨#[]⟩, .slice (some ⟨w4.heap.size + 1 + 1 + 1, 0, none⟩) 3 3, .slice none 0 0, .int .i64 7, .int .i64 0, .bool false, .int .i64 0, .string ⟨#[]⟩, .string ⟨#[]⟩, .string ⟨#[]⟩, .slice none 0 0, .slice none 0 0, .string ⟨#[]⟩, .slice (some ⟨w4.heap.size + 1 + 1 + 1 + 1, 0, none⟩) 3 3, .slice none 0 0]) HM6.out)
  have HV6 := Lib.hid (heap_alloc_new w6 (.cells #[.int .i64 1, .bool false, .int .i64 0, .string ByteArray.empty, .string ByteArray.empty, .string ByteArray.empty, .slice zA 0 zc, .slice zB 0 zd] 27))
  have HX6 := Lib.hid ((HXw.out.trans hx6).alloc (.cells #[.int .i64 1, .bool false, .int .i64 0, .string ByteArray.empty, .string ByteArray.empty, .string ByteArray.empty, .slice zA 0 zc, .slice zB 0 zd] 27))
  clear hc hv hx6 hin hl hd h6 hk hpos hde hdp hrow HM HXw
  go_wp2_with (first | refine wpList_load_cells rfl 30 _ rfl (w4.heap.size + 1 + 1 + 1 + 1 + 1) 0 rfl Tryz.aggEx Tryz.sizeEx (cs := [.int .i64 4, .int .i64 0, .bool false, .int .i64 0, .string ⟨#[]⟩, .string ⟨#[]⟩, .string ⟨#[]⟩, .slice none 0 0, .slice none 0 0, .string ⟨#[]⟩, .slice (some ⟨w4.heap.size + 1, 0, none⟩) 2 2, .slice none 0 0]) rfl HCm.out ?_)
  refine HC.out.mono ?_
  rintro e7 w7 ⟨rfl, hx7⟩
  have HV7 := Lib.hid ((hx7.block _ (Blk_lt HV6.out)).trans HV6.out)
  have HX7 := Lib.hid (HX6.out.trans hx7)
  have f0 : w7.cell? ⟨w6.heap.size, 0, none⟩ = some (.int .i64 1) := cell_of_row _ _ 0 _ _ _ HV7.out
  have f1 : w7.cell? ⟨w6.heap.size, 1, none⟩ = some (.bool false) := cell_of_row _ _ 1 _ _ _ HV7.out
  clear hx7 HC HM6 HCm HV6 HX6 HV7
  go_wp2_with fail
  go_ret
  exact ⟨rfl, HX7.out⟩
set_option maxRecDepth 100000 in
set_option maxHeartbeats 4000000 in
theorem evalShort_0d (x : Exp) (k : Int) (hk : k % 4 = 0) (hdp : 50 < x.dep + 1) (W : World) (cs : List Value) (hx : InX W x cs) (hs : Sums W) :
    Calls Tryz.prog 3 #[.agg cs.toArray, .int .i64 k] W fun e W' => e = .returned (.bool true) ∧ Ext W W' := by
  have HXe := Lib.hid hx
  have HS := Lib.hid hs
  have hb : bits .and .i64 k 3 = 0 := by rw [i64_and3]; exact hk
  have HDp := Lib.hid hdp
  obtain ⟨eo, ev, en, eks, ens⟩ := x
  obtain ⟨lk, lb, ln, ls, lt, lu, lA, ll, lc, lB, lm, ld, eK, ec, eN, ed, hcs, _⟩ := Exp.At.shape hx
  obtain rfl : cs = [.int .i64 eo, .int .i64 lk, .bool lb, .int .i64 ln, .string ls, .string lt, .string lu, .slice lA ll lc, .slice lB lm ld, .string en, .slice eK eks.length ec, .slice eN ens.length ed] := hcs
  have HX0 := Lib.hid ((Ext.refl W).alloc (.cells #[.int .i64 eo, .int .i64 lk, .bool lb, .int .i64 ln, .string ls, .string lt, .string lu, .slice lA ll lc, .slice lB lm ld, .string en, .slice eK eks.length ec, .slice eN ens.length ed] 30))
  have HB0 := Lib.hid (heap_alloc_new W (.cells #[.int .i64 eo, .int .i64 lk, .bool lb, .int .i64 ln, .string ls, .string lt, .string lu, .slice lA ll lc, .slice lB lm ld, .string en, .slice eK eks.length ec, .slice eN ens.length ed] 30))
  clear hx hs hk hdp
  go_enter Tryz.func3, Tryz.ntmps3
  go_wp2_with fail
  refine (awake14_ok _ (HS.out.ext HX0.out)).mono ?_
  rintro e1 w1 ⟨rfl, hx⟩
  have HX1 := Lib.hid (HX0.out.trans hx)
  have HB1 := Lib.hid ((hx.block _ (Blk_lt HB0.out)).trans HB0.out)
  clear hx HX0 HB0
  go_wp2_with ((with_reducible refine at_load ?_; refine wpList_load_cells rfl 30 _ rfl W.heap.size 0 rfl Tryz.aggEx Tryz.sizeEx (cs := [.int .i64 eo, .int .i64 lk, .bool lb, .int .i64 ln, .string ls, .string lt, .string lu, .slice lA ll lc, .slice lB lm ld, .string en, .slice eK eks.length ec, .slice eN ens.length ed]) rfl (cells_of_row HB1.out) ?_))
  refine (fit14_ok (Exp.mk eo ev en eks ens) reqZ [] _ [.int .i64 eo, .int .i64 lk, .bool lb, .int .i64 ln, .string ls, .string lt, .string lu, .slice lA ll lc, .slice lB lm ld, .string en, .slice eK eks.length ec, .slice eN ens.length ed] reqC (.slice none 0 0) (HXe.out.ext HX1.out) (reqZ_at _ _) (Rep.RowsAt.nil _ _)).mono ?_
  rintro e2 w2 ⟨r, hr, rfl, hx⟩
  have HX2 := Lib.hid (HX1.out.trans hx)
  have HB2 := Lib.hid ((hx.block _ (Blk_lt HB1.out)).trans HB1.out)
  have HR := Lib.hid hr
  clear hx HX1 HB1 hr
  cases r with
  | false =>
    go_wp2_with fail
    go_ret
    exact ⟨rfl, HX2.out⟩
  | true =>
  have HF := Lib.hid (HR.out rfl)
  clear HR
  go_wp2_with fail
  refine ((lit_ok 1 false 0 ByteArray.empty ByteArray.empty ByteArray.empty none 0 0 none 0 0 _)).mono ?_
  rintro e3 w3 ⟨rfl, hx3⟩
  have HX3 := Lib.hid (HX2.out.trans hx3)
  have HB3 := Lib.hid ((hx3.block _ (Blk_lt HB2.out)).trans HB2.out)
  clear hx3 HX2 HB2
  go_wp2_with fail
  refine ((lit_ok 1 true 0 ByteArray.empty ByteArray.empty ByteArray.empty none 0 0 none 0 0 _)).mono ?_
  rintro e4 w4 ⟨rfl, hx4⟩
  have HF4 := Lib.hid ((hx4.block _ (by simp)).trans (heap_alloc_new w3 (.cells #[.int .i64 1, .int .i64 1, .bool false, .int .i64 0, .string ByteArray.empty, .string ByteArray.empty, .string ByteArray.empty, .slice none 0 0, .slice none 0 0, .string ByteArray.empty, .slice none 0 0, .slice none 0 0] 30)))
  have HB4 := Lib.hid ((((Ext.refl w3).alloc (.cells #[.int .i64 1, .int .i64 1, .bool false, .int .i64 0, .string ByteArray.empty, .string ByteArray.empty, .string ByteArray.empty, .slice none 0 0, .slice none 0 0, .string ByteArray.empty, .slice none 0 0, .slice none 0 0] 30)).trans hx4).block _ (Blk_lt HB3.out) |>.trans HB3.out)
  have HX4 := Lib.hid (HX3.out.trans (((Ext.refl w3).alloc (.cells #[.int .i64 1, .int .i64 1, .bool false, .int .i64 0, .string ByteArray.empty, .string ByteArray.empty, .string ByteArray.empty, .slice none 0 0, .slice none 0 0, .string ByteArray.empty, .slice none 0 0, .slice none 0 0] 30)).trans hx4))
  clear hx4 HX3 HB3
  have HFy := Lib.hid ((heap_alloc_old w4 (.cells #[.int .i64 1, .int .i64 1, .bool true, .int .i64 0, .string ByteArray.empty, .string ByteArray.empty, .string ByteArray.empty, .slice none 0 0, .slice none 0 0, .string ByteArray.empty, .slice none 0 0, .slice none 0 0] 30) (Blk_lt HF4.out)).trans HF4.out)
  have HBy := Lib.hid ((heap_alloc_old w4 (.cells #[.int .i64 1, .int .i64 1, .bool true, .int .i64 0, .string ByteArray.empty, .string ByteArray.empty, .string ByteArray.empty, .slice none 0 0, .slice none 0 0, .string ByteArray.empty, .slice none 0 0, .slice none 0 0] 30) (Blk_lt HB4.out)).trans HB4.out)
  have HTy := Lib.hid (heap_alloc_new w4 (.cells #[.int .i64 1, .int .i64 1, .bool true, .int .i64 0, .string ByteArray.empty, .string ByteArray.empty, .string ByteArray.empty, .slice none 0 0, .slice none 0 0, .string ByteArray.empty, .slice none 0 0, .slice none 0 0] 30))
  have HXy := Lib.hid (HX4.out.alloc (.cells #[.int .i64 1, .int .i64 1, .bool true, .int .i64 0, .string ByteArray.empty, .string ByteArray.empty, .string ByteArray.empty, .slice none 0 0, .slice none 0 0, .string ByteArray.empty, .slice none 0 0, .slice none 0 0] 30))
  clear HF4 HB4 HX4
  go_wp2_with (first | (with_reducible refine at_load ?_; refine wpList_load_cells rfl 30 _ rfl w3.heap.size 0 rfl Tryz.aggEx Tryz.sizeEx (cs := [.int .i64 1, .int .i64 1, .bool false, .int .i64 0, .string ByteArray.empty, .string ByteArray.empty, .string ByteArray.empty, .slice none 0 0, .slice none 0 0, .string ByteArray.empty, .slice none 0 0, .slice none 0 0]) rfl (cells_of_row (by with_reducible first | exact HFy.out | exact keep_alloc (HFy.out) | exact keep_alloc (keep_alloc (HFy.out)) | exact keep_alloc (keep_alloc (keep_alloc (HFy.out))) | exact keep_alloc (keep_alloc (keep_alloc (keep_alloc (HFy.out)))))) ?_) | (with_reducible refine at_load ?_; refine wpList_load_cells rfl 30 _ rfl W.heap.size 0 rfl Tryz.aggEx Tryz.sizeEx (cs := [.int .i64 eo, .int .i64 lk, .bool lb, .int .i64 ln, .string ls, .string lt, .string lu, .slice lA ll lc, .slice lB lm ld, .string en, .slice eK eks.length ec, .slice eN ens.length ed]) rfl (cells_of_row (by with_reducible first | exact HBy.out | exact keep_alloc (HBy.out) | exact keep_alloc (keep_alloc (HBy.out)) | exact keep_alloc (keep_alloc (keep_alloc (HBy.out))) | exact keep_alloc (keep_alloc (keep_alloc (keep_alloc (HBy.out)))))) ?_) | (with_reducible refine at_load ?_; refine wpList_load_cells rfl 30 _ rfl w4.heap.size 0 rfl Tryz.aggEx Tryz.sizeEx (cs := [.int .i64 1, .int .i64 1, .bool true, .int .i64 0, .string ByteArray.empty, .string ByteArray.empty, .string ByteArray.empty, .slice none 0 0, .slice none 0 0, .string ByteArray.empty, .slice none 0 0, .slice none 0 0]) rfl (cells_of_row (by with_reducible first | exact HTy.out | exact keep_alloc (HTy.out) | exact keep_alloc (keep_alloc (HTy.out)) | exact keep_alloc (keep_alloc (keep_alloc (HTy.out))) | exact keep_alloc (keep_alloc (keep_alloc (keep_alloc (HTy.out)))))) ?_))
  obtain ⟨w5, hW, m0, m1, m2, m3, m4, hx5⟩ := heapA5 (w4.alloc (.cells #[.int .i64 1, .int .i64 1, .bool true, .int .i64 0, .string ByteArray.empty, .string ByteArray.empty, .string ByteArray.empty, .slice none 0 0, .slice none 0 0, .string ByteArray.empty, .slice none 0 0, .slice none 0 0] 30)) (.cells #[.int .i64 1, .int .i64 1, .bool false, .int .i64 0, .string ByteArray.empty, .string ByteArray.empty, .string ByteArray.empty, .slice none 0 0, .slice none 0 0, .string ByteArray.empty, .slice none 0 0, .slice none 0 0, .int .i64 eo, .int .i64 lk, .bool lb, .int .i64 ln, .string ls, .string lt, .string lu, .slice lA ll lc, .slice lB lm ld, .string en, .slice eK eks.length ec, .slice eN ens.length ed] 30) (.cells #[.int .i64 1, .int .i64 1, .bool true, .int .i64 0, .string ByteArray.empty, .string ByteArray.empty, .string ByteArray.empty, .slice none 0 0, .slice none 0 0, .string ByteArray.empty, .slice none 0 0, .slice none 0 0, .int .i64 eo, .int .i64 lk, .bool lb, .int .i64 ln, .string ls, .string lt, .string lu, .slice lA ll lc, .slice lB lm ld, .string en, .slice eK eks.length ec, .slice eN ens.length ed] 30) (.cells #[.int .i64 1, .int .i64 1, .bool true, .int .i64 0, .string ByteArray.empty, .string ByteArray.empty, .string ByteArray.empty, .slice none 0 0, .slice none 0 0, .string ByteArray.empty, .slice none 0 0, .slice none 0 0, .int .i64 1, .int .i64 1, .bool true, .int .i64 0, .string ByteArray.empty, .string ByteArray.empty, .string ByteArray.empty, .slice none 0 0, .slice none 0 0, .string ByteArray.empty, .slice none 0 0, .slice none 0 0, .int .i64 eo, .int .i64 lk, .bool lb, .int .i64 ln, .string ls, .string lt, .string lu, .slice lA ll lc, .slice lB lm ld, .string en, .slice eK eks.length ec, .slice eN ens.length ed] 30) (.cells #[.int .i64 1, .int .i64 1, .bool false, .int .i64 0, .string ByteArray.empty, .string ByteArray.empty, .string ByteArray.empty, .slice none 0 0, .slice none 0 0, .string ByteArray.empty, .slice none 0 0, .slice none 0 0, .int .i64 eo, .int .i64 lk, .bool lb, .int .i64 ln, .string ls, .string lt, .string lu, .slice lA ll lc, .slice lB lm ld, .string en, .slice eK eks.length ec, .slice eN ens.length ed, .int .i64 1, .int .i64 1, .bool true, .int .i64 0, .string ByteArray.empty, .string ByteArray.empty, .string ByteArray.empty, .slice none 0 0, .slice none 0 0, .string ByteArray.empty, .slice none 0 0, .slice none 0 0] 30) (.cells #[.int .i64 4, .int .i64 0, .bool false, .int .i64 0, .string ⟨#[]⟩, .string ⟨#[]⟩, .string ⟨#[]⟩, .slice none 0 0, .slice none 0 0, .string ⟨#[]⟩, .slice (some ⟨w4.heap.size + 1, 0, none⟩) 2 2, .slice none 0 0, .int .i64 5, .int .i64 0, .bool false, .int .i64 0, .string ⟨#[]⟩, .string ⟨#[]⟩, .string ⟨#[]⟩, .slice none 0 0, .slice none 0 0, .string ⟨#[]⟩, .slice (some ⟨w4.heap.size + 1 + 1, 0, none⟩) 2 2, .slice none 0 0, .int .i64 7, .int .i64 0, .bool false, .int .i64 0, .string ⟨#[]⟩, .string ⟨#[]⟩, .string ⟨#[]⟩, .slice none 0 0, .slice none 0 0, .string ⟨#[]⟩, .slice (some ⟨w4.heap.size + 1 + 1 + 1, 0, none⟩) 3 3, .slice none 0 0, .int .i64 7, .int .i64 0, .bool false, .int .i64 0, .string ⟨#[]⟩, .string ⟨#[]⟩, .string ⟨#[]⟩, .slice none 0 0, .slice none 0 0, .string ⟨#[]⟩, .slice (some ⟨w4.heap.size + 1 + 1 + 1 + 1, 0, none⟩) 3 3, .slice none 0 0] 30)
  rw [← hW]
  have hsz : (w4.alloc (.cells #[.int .i64 1, .int .i64 1, .bool true, .int .i64 0, .string ByteArray.empty, .string ByteArray.empty, .string ByteArray.empty, .slice none 0 0, .slice none 0 0, .string ByteArray.empty, .slice none 0 0, .slice none 0 0] 30)).heap.size = w4.heap.size + 1 := by simp
  rw [hsz] at m0 m1 m2 m3 m4
  have HM := Lib.hid (show w5.heap[w4.heap.size + 1 + 1 + 1 + 1 + 1]? = some (.cells #[.int .i64 4, .int .i64 0, .bool false, .int .i64 0, .string ⟨#[]⟩, .string ⟨#[]⟩, .string ⟨#[]⟩, .slice none 0 0, .slice none 0 0, .string ⟨#[]⟩, .slice (some ⟨w4.heap.size + 1, 0, none⟩) 2 2, .slice none 0 0, .int .i64 5, .int .i64 0, .bool false, .int .i64 0, .string ⟨#[]⟩, .string ⟨#[]⟩, .string ⟨#[]⟩, .slice none 0 0, .slice none 0 0, .string ⟨#[]⟩, .slice (some ⟨w4.heap.size + 1 + 1, 0, none⟩) 2 2, .slice none 0 0, .int .i64 7, .int .i64 0, .bool false, .int .i64 0, .string ⟨#[]⟩, .string ⟨#[]⟩, .string ⟨#[]⟩, .slice none 0 0, .slice none 0 0, .string ⟨#[]⟩, .slice (some ⟨w4.heap.size + 1 + 1 + 1, 0, none⟩) 3 3, .slice none 0 0, .int .i64 7, .int .i64 0, .bool false, .int .i64 0, .string ⟨#[]⟩, .string ⟨#[]⟩, .string ⟨#[]⟩, .slice none 0 0, .slice none 0 0, .string ⟨#[]⟩, .slice (some ⟨w4.heap.size + 1 + 1 + 1 + 1, 0, none⟩) 3 3, .slice none 0 0] 30 (0, 0)) from m4)
  have HXw := Lib.hid (HXy.out.trans hx5)
  have hrow : w5.heap[w4.heap.size + 1]? = some (.cells (([.int .i64 1, .int .i64 1, .bool false, .int .i64 0, .string ByteArray.empty, .string ByteArray.empty, .string ByteArray.empty, .slice none 0 0, .slice none 0 0, .string ByteArray.empty, .slice none 0 0, .slice none 0 0] : List Value) ++ (([.int .i64 eo, .int .i64 lk, .bool lb, .int .i64 ln, .string ls, .string lt, .string lu, .slice lA ll lc, .slice lB lm ld, .string en, .slice eK eks.length ec, .slice eN ens.length ed] : List Value) ++ (([] : List Value)))).toArray 30 (0, 0)) := m0
  clear hW m0 m1 m2 m3 m4 hx5 hsz HXy HFy HBy HTy
  have hk : expR.RowsAt (fun b => b < w5.heap.size) w5 [.lit (.truth false), (Exp.mk eo ev en eks ens)] (.slice (some ⟨w4.heap.size + 1, 0, none⟩) 2 2) := kids_at hrow (flat_cons (cs := [.int .i64 1, .int .i64 1, .bool false, .int .i64 0, .string ByteArray.empty, .string ByteArray.empty, .string ByteArray.empty, .slice none 0 0, .slice none 0 0, .string ByteArray.empty, .slice none 0 0, .slice none 0 0]) (lit_at (truth_at _ _ false)) (flat_cons (cs := [.int .i64 eo, .int .i64 lk, .bool lb, .int .i64 ln, .string ls, .string lt, .string lu, .slice lA ll lc, .slice lB lm ld, .string en, .slice eK eks.length ec, .slice eN ens.length ed]) (Exp.At.mono (fun b hb => Nat.lt_of_lt_of_le hb HXw.out.size) _ _ (Exp.At.alike (Alike.of_ext HXw.out fun _ h => h) _ _ HXe.out)) (flat_nil))) (by rw [LIM_eq]; simp) rfl (by simp) (by rw [maxLen_eq]; omega)
  have hpos : 1 ≤ (Exp.mk eo ev en eks ens).dep := by rw [Exp.dep_def]; omega
  have hde : (Exp.of 4 [.lit (.truth false), (Exp.mk eo ev en eks ens)]).dep = (Exp.mk eo ev en eks ens).dep + 1 := by
    rw [Exp.of_dep]
    simp only [Exp.deps, Exp.lit_dep]
    omega
  have hd := HDp.out
  have hl : (Exp.of 4 [.lit (.truth false), (Exp.mk eo ev en eks ens)]).lits 1000000 := Exp.of_lits (by omega) (by
    intro y hy
    simp only [List.mem_cons, List.mem_nil_iff, or_false] at hy
    rcases hy with rfl | rfl <;> first | exact Exp.lit_lits (by decide) | exact Exp.lits_mono (by omega) _ HF.out.lits)
  have hin : InX w5 (.of 4 [.lit (.truth false), (Exp.mk eo ev en eks ens)]) (opC 4 (.slice (some ⟨w4.heap.size + 1, 0, none⟩) 2 2)) := of_at (by unfold I64; omega) hk
  have h6 := HF.out.dep
  have hc := evalZ_ok (.of 4 [.lit (.truth false), (Exp.mk eo ev en eks ens)]) (.zero, 11) w5 (opC 4 (.slice (some ⟨w4.heap.size + 1, 0, none⟩) 2 2)) (by
    unfold Exp.eval
    rw [if_pos (by rw [hde]; omega)]; rfl) (by rw [hde]; omega) hl hin (HS.out.ext HXw.out)
  refine hc.mono ?_
  rintro e6 w6 ⟨cv, rfl, hv, hx6⟩
  obtain ⟨zA, zc, zB, zd, rfl⟩ := hv.opened
  have HC := Lib.hid (depthR_ok (SizeOf.sizeOf (Exp.of 4 [.lit (.truth false), (Exp.mk eo ev en eks ens)])) (.of 4 [.lit (.truth false), (Exp.mk eo ev en eks ens)]) (w6.alloc (.cells #[.int .i64 0, .bool false, .int .i64 0, .string ByteArray.empty, .string ByteArray.empty, .string ByteArray.empty, .slice zA 0 zc, .slice zB 0 zd] 27)) (opC 4 (.slice (some ⟨w4.heap.size + 1, 0, none⟩) 2 2)) (Nat.le_refl _) (by rw [hde]; omega) (hin.ext (hx6.alloc _)))
  obtain ⟨dp, hdp⟩ : ∃ d, (Exp.of 4 [.lit (.truth false), (Exp.mk eo ev en eks ens)]).dep = d := ⟨_, rfl⟩
  rw [hdp] at HC hde
  have t0 : decide ((50 : Int) < (dp : Int)) = true := by simp; omega
  have HM6 := Lib.hid ((heap_alloc_old w6 (.cells #[.int .i64 0, .bool false, .int .i64 0, .string ByteArray.empty, .string ByteArray.empty, .string ByteArray.empty, .slice zA 0 zc, .slice zB 0 zd] 27) (Blk_lt ((hx6.block _ (Blk_lt HM.out)).trans HM.out))).trans ((hx6.block _ (Blk_lt HM.out)).trans HM.out))
  have HCm := Lib.hid (cells_mid (pre := []) (cs := [.int .i64 4, .int .i64 0, .bool false, .int .i64 0, .string ⟨#[]⟩, .string ⟨#[]⟩, .string ⟨#[]⟩, .slice none 0 0, .slice none 0 0, .string ⟨#[]⟩, .slice (some ⟨w4.heap.size + 1, 0, none⟩) 2 2, .slice none 0 0]) (r := [.int .i64 5, .int .i64 0, .bool false, .int .i64 0, .string ⟨#[]⟩, .string ⟨#[]⟩, .string ⟨#[]⟩, .slice none 0 0, .slice none 0 0, .string ⟨#[]⟩, .slice (some ⟨w4.heap.size + 1 + 1, 0, none⟩) 2 2, .slice none 0 0, .int .i64 7, .int .i64 0, .bool false, .int .i64 0, .string ⟨#[]⟩, .string ⟨#[]⟩, .string ⟨#[]⟩, .slice none 0 0, .slice none 0 0, .string ⟨#[]⟩, .slice (some ⟨w4.heap.size + 1 + 1 + 1, 0, none⟩) 3 3, .slice none 0 0, .int .i64 7, .int .i64 0, .bool false, .int .i64 0, .string ⟨#[]⟩, .string ⟨#[]⟩, .string ⟨#[]⟩, .slice none 0 0, .slice none 0 0, .string ⟨#[]⟩, .slice (some ⟨w4.heap.size + 1 + 1 + 1 + 1, 0, none⟩) 3 3, .slice none 0 0]) HM6.out)
  have HV6 := Lib.hid (heap_alloc_new w6 (.cells #[.int .i64 0, .bool false, .int .i64 0, .string ByteArray.empty, .string ByteArray.empty, .string ByteArray.empty, .slice zA 0 zc, .slice zB 0 zd] 27))
  have HX6 := Lib.hid ((HXw.out.trans hx6).alloc (.cells #[.int .i64 0, .bool false, .int .i64 0, .string ByteArray.empty, .string ByteArray.empty, .string ByteArray.empty, .slice zA 0 zc, .slice zB 0 zd] 27))
  clear hc hv hx6 hin hl hd h6 hk hpos hde hdp hrow HM HXw
  go_wp2_with (first | refine wpList_load_cells rfl 30 _ rfl (w4.heap.size + 1 + 1 + 1 + 1 + 1) 0 rfl Tryz.aggEx Tryz.sizeEx (cs := [.int .i64 4, .int .i64 0, .bool false, .int .i64 0, .string ⟨#[]⟩, .string ⟨#[]⟩, .string ⟨#[]⟩, .slice none 0 0, .slice none 0 0, .string ⟨#[]⟩, .slice (some ⟨w4.heap.size + 1, 0, none⟩) 2 2, .slice none 0 0]) rfl HCm.out ?_)
  refine HC.out.mono ?_
  rintro e7 w7 ⟨rfl, hx7⟩
  have HV7 := Lib.hid ((hx7.block _ (Blk_lt HV6.out)).trans HV6.out)
  have HX7 := Lib.hid (HX6.out.trans hx7)
  have f0 : w7.cell? ⟨w6.heap.size, 0, none⟩ = some (.int .i64 0) := cell_of_row _ _ 0 _ _ _ HV7.out
  have f1 : w7.cell? ⟨w6.heap.size, 1, none⟩ = some (.bool false) := cell_of_row _ _ 1 _ _ _ HV7.out
  clear hx7 HC HM6 HCm HV6 HX6 HV7
  go_wp2_with fail
  go_ret
  exact ⟨rfl, HX7.out⟩
set_option maxRecDepth 100000 in
set_option maxHeartbeats 4000000 in
theorem evalShort_1s (x : Exp) (k : Int) (hk : k % 4 = 1) (hdp : x.dep + 1 ≤ 50) (W : World) (cs : List Value) (hx : InX W x cs) (hs : Sums W) :
    Calls Tryz.prog 3 #[.agg cs.toArray, .int .i64 k] W fun e W' => e = .returned (.bool true) ∧ Ext W W' := by
  have HXe := Lib.hid hx
  have HS := Lib.hid hs
  have hb : bits .and .i64 k 3 = 1 := by rw [i64_and3]; exact hk
  have HDp := Lib.hid hdp
  obtain ⟨eo, ev, en, eks, ens⟩ := x
  obtain ⟨lk, lb, ln, ls, lt, lu, lA, ll, lc, lB, lm, ld, eK, ec, eN, ed, hcs, _⟩ := Exp.At.shape hx
  obtain rfl : cs = [.int .i64 eo, .int .i64 lk, .bool lb, .int .i64 ln, .string ls, .string lt, .string lu, .slice lA ll lc, .slice lB lm ld, .string en, .slice eK eks.length ec, .slice eN ens.length ed] := hcs
  have HX0 := Lib.hid ((Ext.refl W).alloc (.cells #[.int .i64 eo, .int .i64 lk, .bool lb, .int .i64 ln, .string ls, .string lt, .string lu, .slice lA ll lc, .slice lB lm ld, .string en, .slice eK eks.length ec, .slice eN ens.length ed] 30))
  have HB0 := Lib.hid (heap_alloc_new W (.cells #[.int .i64 eo, .int .i64 lk, .bool lb, .int .i64 ln, .string ls, .string lt, .string lu, .slice lA ll lc, .slice lB lm ld, .string en, .slice eK eks.length ec, .slice eN ens.length ed] 30))
  clear hx hs hk hdp
  go_enter Tryz.func3, Tryz.ntmps3
  go_wp2_with fail
  refine (awake14_ok _ (HS.out.ext HX0.out)).mono ?_
  rintro e1 w1 ⟨rfl, hx⟩
  have HX1 := Lib.hid (HX0.out.trans hx)
  have HB1 := Lib.hid ((hx.block _ (Blk_lt HB0.out)).trans HB0.out)
  clear hx HX0 HB0
  go_wp2_with ((with_reducible refine at_load ?_; refine wpList_load_cells rfl 30 _ rfl W.heap.size 0 rfl Tryz.aggEx Tryz.sizeEx (cs := [.int .i64 eo, .int .i64 lk, .bool lb, .int .i64 ln, .string ls, .string lt, .string lu, .slice lA ll lc, .slice lB lm ld, .string en, .slice eK eks.length ec, .slice eN ens.length ed]) rfl (cells_of_row HB1.out) ?_))
  refine (fit14_ok (Exp.mk eo ev en eks ens) reqZ [] _ [.int .i64 eo, .int .i64 lk, .bool lb, .int .i64 ln, .string ls, .string lt, .string lu, .slice lA ll lc, .slice lB lm ld, .string en, .slice eK eks.length ec, .slice eN ens.length ed] reqC (.slice none 0 0) (HXe.out.ext HX1.out) (reqZ_at _ _) (Rep.RowsAt.nil _ _)).mono ?_
  rintro e2 w2 ⟨r, hr, rfl, hx⟩
  have HX2 := Lib.hid (HX1.out.trans hx)
  have HB2 := Lib.hid ((hx.block _ (Blk_lt HB1.out)).trans HB1.out)
  have HR := Lib.hid hr
  clear hx HX1 HB1 hr
  cases r with
  | false =>
    go_wp2_with fail
    go_ret
    exact ⟨rfl, HX2.out⟩
  | true =>
  have HF := Lib.hid (HR.out rfl)
  clear HR
  go_wp2_with fail
  refine ((lit_ok 1 false 0 ByteArray.empty ByteArray.empty ByteArray.empty none 0 0 none 0 0 _)).mono ?_
  rintro e3 w3 ⟨rfl, hx3⟩
  have HX3 := Lib.hid (HX2.out.trans hx3)
  have HB3 := Lib.hid ((hx3.block _ (Blk_lt HB2.out)).trans HB2.out)
  clear hx3 HX2 HB2
  go_wp2_with fail
  refine ((lit_ok 1 true 0 ByteArray.empty ByteArray.empty ByteArray.empty none 0 0 none 0 0 _)).mono ?_
  rintro e4 w4 ⟨rfl, hx4⟩
  have HF4 := Lib.hid ((hx4.block _ (by simp)).trans (heap_alloc_new w3 (.cells #[.int .i64 1, .int .i64 1, .bool false, .int .i64 0, .string ByteArray.empty, .string ByteArray.empty, .string ByteArray.empty, .slice none 0 0, .slice none 0 0, .string ByteArray.empty, .slice none 0 0, .slice none 0 0] 30)))
  have HB4 := Lib.hid ((((Ext.refl w3).alloc (.cells #[.int .i64 1, .int .i64 1, .bool false, .int .i64 0, .string ByteArray.empty, .string ByteArray.empty, .string ByteArray.empty, .slice none 0 0, .slice none 0 0, .string ByteArray.empty, .slice none 0 0, .slice none 0 0] 30)).trans hx4).block _ (Blk_lt HB3.out) |>.trans HB3.out)
  have HX4 := Lib.hid (HX3.out.trans (((Ext.refl w3).alloc (.cells #[.int .i64 1, .int .i64 1, .bool false, .int .i64 0, .string ByteArray.empty, .string ByteArray.empty, .string ByteArray.empty, .slice none 0 0, .slice none 0 0, .string ByteArray.empty, .slice none 0 0, .slice none 0 0] 30)).trans hx4))
  clear hx4 HX3 HB3
  have HFy := Lib.hid ((heap_alloc_old w4 (.cells #[.int .i64 1, .int .i64 1, .bool true, .int .i64 0, .string ByteArray.empty, .string ByteArray.empty, .string ByteArray.empty, .slice none 0 0, .slice none 0 0, .string ByteArray.empty, .slice none 0 0, .slice none 0 0] 30) (Blk_lt HF4.out)).trans HF4.out)
  have HBy := Lib.hid ((heap_alloc_old w4 (.cells #[.int .i64 1, .int .i64 1, .bool true, .int .i64 0, .string ByteArray.empty, .string ByteArray.empty, .string ByteArray.empty, .slice none 0 0, .slice none 0 0, .string ByteArray.empty, .slice none 0 0, .slice none 0 0] 30) (Blk_lt HB4.out)).trans HB4.out)
  have HTy := Lib.hid (heap_alloc_new w4 (.cells #[.int .i64 1, .int .i64 1, .bool true, .int .i64 0, .string ByteArray.empty, .string ByteArray.empty, .string ByteArray.empty, .slice none 0 0, .slice none 0 0, .string ByteArray.empty, .slice none 0 0, .slice none 0 0] 30))
  have HXy := Lib.hid (HX4.out.alloc (.cells #[.int .i64 1, .int .i64 1, .bool true, .int .i64 0, .string ByteArray.empty, .string ByteArray.empty, .string ByteArray.empty, .slice none 0 0, .slice none 0 0, .string ByteArray.empty, .slice none 0 0, .slice none 0 0] 30))
  clear HF4 HB4 HX4
  go_wp2_with (first | (with_reducible refine at_load ?_; refine wpList_load_cells rfl 30 _ rfl w3.heap.size 0 rfl Tryz.aggEx Tryz.sizeEx (cs := [.int .i64 1, .int .i64 1, .bool false, .int .i64 0, .string ByteArray.empty, .string ByteArray.empty, .string ByteArray.empty, .slice none 0 0, .slice none 0 0, .string ByteArray.empty, .slice none 0 0, .slice none 0 0]) rfl (cells_of_row (by with_reducible first | exact HFy.out | exact keep_alloc (HFy.out) | exact keep_alloc (keep_alloc (HFy.out)) | exact keep_alloc (keep_alloc (keep_alloc (HFy.out))) | exact keep_alloc (keep_alloc (keep_alloc (keep_alloc (HFy.out)))))) ?_) | (with_reducible refine at_load ?_; refine wpList_load_cells rfl 30 _ rfl W.heap.size 0 rfl Tryz.aggEx Tryz.sizeEx (cs := [.int .i64 eo, .int .i64 lk, .bool lb, .int .i64 ln, .string ls, .string lt, .string lu, .slice lA ll lc, .slice lB lm ld, .string en, .slice eK eks.length ec, .slice eN ens.length ed]) rfl (cells_of_row (by with_reducible first | exact HBy.out | exact keep_alloc (HBy.out) | exact keep_alloc (keep_alloc (HBy.out)) | exact keep_alloc (keep_alloc (keep_alloc (HBy.out))) | exact keep_alloc (keep_alloc (keep_alloc (keep_alloc (HBy.out)))))) ?_) | (with_reducible refine at_load ?_; refine wpList_load_cells rfl 30 _ rfl w4.heap.size 0 rfl Tryz.aggEx Tryz.sizeEx (cs := [.int .i64 1, .int .i64 1, .bool true, .int .i64 0, .string ByteArray.empty, .string ByteArray.empty, .string ByteArray.empty, .slice none 0 0, .slice none 0 0, .string ByteArray.empty, .slice none 0 0, .slice none 0 0]) rfl (cells_of_row (by with_reducible first | exact HTy.out | exact keep_alloc (HTy.out) | exact keep_alloc (keep_alloc (HTy.out)) | exact keep_alloc (keep_alloc (keep_alloc (HTy.out))) | exact keep_alloc (keep_alloc (keep_alloc (keep_alloc (HTy.out)))))) ?_))
  obtain ⟨w5, hW, m0, m1, m2, m3, m4, hx5⟩ := heapA5 (w4.alloc (.cells #[.int .i64 1, .int .i64 1, .bool true, .int .i64 0, .string ByteArray.empty, .string ByteArray.empty, .string ByteArray.empty, .slice none 0 0, .slice none 0 0, .string ByteArray.empty, .slice none 0 0, .slice none 0 0] 30)) (.cells #[.int .i64 1, .int .i64 1, .bool false, .int .i64 0, .string ByteArray.empty, .string ByteArray.empty, .string ByteArray.empty, .slice none 0 0, .slice none 0 0, .string ByteArray.empty, .slice none 0 0, .slice none 0 0, .int .i64 eo, .int .i64 lk, .bool lb, .int .i64 ln, .string ls, .string lt, .string lu, .slice lA ll lc, .slice lB lm ld, .string en, .slice eK eks.length ec, .slice eN ens.length ed] 30) (.cells #[.int .i64 1, .int .i64 1, .bool true, .int .i64 0, .string ByteArray.empty, .string ByteArray.empty, .string ByteArray.empty, .slice none 0 0, .slice none 0 0, .string ByteArray.empty, .slice none 0 0, .slice none 0 0, .int .i64 eo, .int .i64 lk, .bool lb, .int .i64 ln, .string ls, .string lt, .string lu, .slice lA ll lc, .slice lB lm ld, .string en, .slice eK eks.length ec, .slice eN ens.length ed] 30) (.cells #[.int .i64 1, .int .i64 1, .bool true, .int .i64 0, .string ByteArray.empty, .string ByteArray.empty, .string ByteArray.empty, .slice none 0 0, .slice none 0 0, .string ByteArray.empty, .slice none 0 0, .slice none 0 0, .int .i64 1, .int .i64 1, .bool true, .int .i64 0, .string ByteArray.empty, .string ByteArray.empty, .string ByteArray.empty, .slice none 0 0, .slice none 0 0, .string ByteArray.empty, .slice none 0 0, .slice none 0 0, .int .i64 eo, .int .i64 lk, .bool lb, .int .i64 ln, .string ls, .string lt, .string lu, .slice lA ll lc, .slice lB lm ld, .string en, .slice eK eks.length ec, .slice eN ens.length ed] 30) (.cells #[.int .i64 1, .int .i64 1, .bool false, .int .i64 0, .string ByteArray.empty, .string ByteArray.empty, .string ByteArray.empty, .slice none 0 0, .slice none 0 0, .string ByteArray.empty, .slice none 0 0, .slice none 0 0, .int .i64 eo, .int .i64 lk, .bool lb, .int .i64 ln, .string ls, .string lt, .string lu, .slice lA ll lc, .slice lB lm ld, .string en, .slice eK eks.length ec, .slice eN ens.length ed, .int .i64 1, .int .i64 1, .bool true, .int .i64 0, .string ByteArray.empty, .string ByteArray.empty, .string ByteArray.empty, .slice none 0 0, .slice none 0 0, .string ByteArray.empty, .slice none 0 0, .slice none 0 0] 30) (.cells #[.int .i64 4, .int .i64 0, .bool false, .int .i64 0, .string ⟨#[]⟩, .string ⟨#[]⟩, .string ⟨#[]⟩, .slice none 0 0, .slice none 0 0, .string ⟨#[]⟩, .slice (some ⟨w4.heap.size + 1, 0, none⟩) 2 2, .slice none 0 0, .int .i64 5, .int .i64 0, .bool false, .int .i64 0, .string ⟨#[]⟩, .string ⟨#[]⟩, .string ⟨#[]⟩, .slice none 0 0, .slice none 0 0, .string ⟨#[]⟩, .slice (some ⟨w4.heap.size + 1 + 1, 0, none⟩) 2 2, .slice none 0 0, .int .i64 7, .int .i64 0, .bool false, .int .i64 0, .string ⟨#[]⟩, .string ⟨#[]⟩, .string ⟨#[]⟩, .slice none 0 0, .slice none 0 0, .string ⟨#[]⟩, .slice (some ⟨w4.heap.size + 1 + 1 + 1, 0, none⟩) 3 3, .slice none 0 0, .int .i64 7, .int .i64 0, .bool false, .int .i64 0, .string ⟨#[]⟩, .string ⟨#[]⟩, .string ⟨#[]⟩, .slice none 0 0, .slice none 0 0, .string ⟨#[]⟩, .slice (some ⟨w4.heap.size + 1 + 1 + 1 + 1, 0, none⟩) 3 3, .slice none 0 0] 30)
  rw [← hW]
  have hsz : (w4.alloc (.cells #[.int .i64 1, .int .i64 1, .bool true, .int .i64 0, .string ByteArray.empty, .string ByteArray.empty, .string ByteArray.empty, .slice none 0 0, .slice none 0 0, .string ByteArray.empty, .slice none 0 0, .slice none 0 0] 30)).heap.size = w4.heap.size + 1 := by simp
  rw [hsz] at m0 m1 m2 m3 m4
  have HM := Lib.hid (show w5.heap[w4.heap.size + 1 + 1 + 1 + 1 + 1]? = some (.cells #[.int .i64 4, .int .i64 0, .bool false, .int .i64 0, .string ⟨#[]⟩, .string ⟨#[]⟩, .string ⟨#[]⟩, .slice none 0 0, .slice none 0 0, .string ⟨#[]⟩, .slice (some ⟨w4.heap.size + 1, 0, none⟩) 2 2, .slice none 0 0, .int .i64 5, .int .i64 0, .bool false, .int .i64 0, .string ⟨#[]⟩, .string ⟨#[]⟩, .string ⟨#[]⟩, .slice none 0 0, .slice none 0 0, .string ⟨#[]⟩, .slice (some ⟨w4.heap.size + 1 + 1, 0, none⟩) 2 2, .slice none 0 0, .int .i64 7, .int .i64 0, .bool false, .int .i64 0, .string ⟨#[]⟩, .string ⟨#[]⟩, .string ⟨#[]⟩, .slice none 0 0, .slice none 0 0, .string ⟨#[]⟩, .slice (some ⟨w4.heap.size + 1 + 1 + 1, 0, none⟩) 3 3, .slice none 0 0, .int .i64 7, .int .i64 0, .bool false, .int .i64 0, .string ⟨#[]⟩, .string ⟨#[]⟩, .string ⟨#[]⟩, .slice none 0 0, .slice none 0 0, .string ⟨#[]⟩, .slice (some ⟨w4.heap.size + 1 + 1 + 1 + 1, 0, none⟩) 3 3, .slice none 0 0] 30 (0, 0)) from m4)
  have HXw := Lib.hid (HXy.out.trans hx5)
  have hrow : w5.heap[w4.heap.size + 1 + 1]? = some (.cells (([.int .i64 1, .int .i64 1, .bool true, .int .i64 0, .string ByteArray.empty, .string ByteArray.empty, .string ByteArray.empty, .slice none 0 0, .slice none 0 0, .string ByteArray.empty, .slice none 0 0, .slice none 0 0] : List Value) ++ (([.int .i64 eo, .int .i64 lk, .bool lb, .int .i64 ln, .string ls, .string lt, .string lu, .slice lA ll lc, .slice lB lm ld, .string en, .slice eK eks.length ec, .slice eN ens.length ed] : List Value) ++ (([] : List Value)))).toArray 30 (0, 0)) := m1
  clear hW m0 m1 m2 m3 m4 hx5 hsz HXy HFy HBy HTy
  have hk : expR.RowsAt (fun b => b < w5.heap.size) w5 [.lit (.truth true), (Exp.mk eo ev en eks ens)] (.slice (some ⟨w4.heap.size + 1 + 1, 0, none⟩) 2 2) := kids_at hrow (flat_cons (cs := [.int .i64 1, .int .i64 1, .bool true, .int .i64 0, .string ByteArray.empty, .string ByteArray.empty, .string ByteArray.empty, .slice none 0 0, .slice none 0 0, .string ByteArray.empty, .slice none 0 0, .slice none 0 0]) (lit_at (truth_at _ _ true)) (flat_cons (cs := [.int .i64 eo, .int .i64 lk, .bool lb, .int .i64 ln, .string ls, .string lt, .string lu, .slice lA ll lc, .slice lB lm ld, .string en, .slice eK eks.length ec, .slice eN ens.length ed]) (Exp.At.mono (fun b hb => Nat.lt_of_lt_of_le hb HXw.out.size) _ _ (Exp.At.alike (Alike.of_ext HXw.out fun _ h => h) _ _ HXe.out)) (flat_nil))) (by rw [LIM_eq]; simp) rfl (by simp) (by rw [maxLen_eq]; omega)
  have hpos : 1 ≤ (Exp.mk eo ev en eks ens).dep := by rw [Exp.dep_def]; omega
  have hde : (Exp.of 5 [.lit (.truth true), (Exp.mk eo ev en eks ens)]).dep = (Exp.mk eo ev en eks ens).dep + 1 := by
    rw [Exp.of_dep]
    simp only [Exp.deps, Exp.lit_dep]
    omega
  have hd := HDp.out
  have hl : (Exp.of 5 [.lit (.truth true), (Exp.mk eo ev en eks ens)]).lits 1000000 := Exp.of_lits (by omega) (by
    intro y hy
    simp only [List.mem_cons, List.mem_nil_iff, or_false] at hy
    rcases hy with rfl | rfl <;> first | exact Exp.lit_lits (by decide) | exact Exp.lits_mono (by omega) _ HF.out.lits)
  have hin : InX w5 (.of 5 [.lit (.truth true), (Exp.mk eo ev en eks ens)]) (opC 5 (.slice (some ⟨w4.heap.size + 1 + 1, 0, none⟩) 2 2)) := of_at (by unfold I64; omega) hk
  have h6 := HF.out.dep
  have hc := evalZ_ok (.of 5 [.lit (.truth true), (Exp.mk eo ev en eks ens)]) (.truth true, 0) w5 (opC 5 (.slice (some ⟨w4.heap.size + 1 + 1, 0, none⟩) 2 2)) (by
    unfold Exp.eval
    rw [if_neg (by rw [hde]; omega), short_ev reqZ [] (Exp.mk eo ev en eks ens) 1 (by omega) _ rfl]; rfl) (by rw [hde]; omega) hl hin (HS.out.ext HXw.out)
  refine hc.mono ?_
  rintro e6 w6 ⟨cv, rfl, hv, hx6⟩
  obtain ⟨zA, zc, zB, zd, rfl⟩ := hv.opened
  have HC := Lib.hid (depthR_ok (SizeOf.sizeOf (Exp.of 5 [.lit (.truth true), (Exp.mk eo ev en eks ens)])) (.of 5 [.lit (.truth true), (Exp.mk eo ev en eks ens)]) (w6.alloc (.cells #[.int .i64 1, .bool true, .int .i64 0, .string ByteArray.empty, .string ByteArray.empty, .string ByteArray.empty, .slice zA 0 zc, .slice zB 0 zd] 27)) (opC 5 (.slice (some ⟨w4.heap.size + 1 + 1, 0, none⟩) 2 2)) (Nat.le_refl _) (by rw [hde]; omega) (hin.ext (hx6.alloc _)))
  obtain ⟨dp, hdp⟩ : ∃ d, (Exp.of 5 [.lit (.truth true), (Exp.mk eo ev en eks ens)]).dep = d := ⟨_, rfl⟩
  rw [hdp] at HC hde
  have t0 : decide ((50 : Int) < (dp : Int)) = false := by simp; omega
  have HM6 := Lib.hid ((heap_alloc_old w6 (.cells #[.int .i64 1, .bool true, .int .i64 0, .string ByteArray.empty, .string ByteArray.empty, .string ByteArray.empty, .slice zA 0 zc, .slice zB 0 zd] 27) (Blk_lt ((hx6.block _ (Blk_lt HM.out)).trans HM.out))).trans ((hx6.block _ (Blk_lt HM.out)).trans HM.out))
  have HCm := Lib.hid (cells_mid (pre := [.int .i64 4, .int .i64 0, .bool false, .int .i64 0, .string ⟨#[]⟩, .string ⟨#[]⟩, .string ⟨#[]⟩, .slice none 0 0, .slice none 0 0, .string ⟨#[]⟩, .slice (some ⟨w4.heap.size + 1, 0, none⟩) 2 2, .slice none 0 0]) (cs := [.int .i64 5, .int .i64 0, .bool false, .int .i64 0, .string ⟨#[]⟩, .string ⟨#[]⟩, .string ⟨#[]⟩, .slice none 0 0, .slice none 0 0, .string ⟨#[]⟩, .slice (some ⟨w4.heap.size + 1 + 1, 0, none⟩) 2 2, .slice none 0 0]) (r := [.int .i64 7, .int .i64 0, .bool false, .int .i64 0, .string ⟨#[]⟩, .string ⟨#[]⟩, .string ⟨#[]⟩, .slice none 0 0, .slice none 0 0, .string ⟨#[]⟩, .slice (some ⟨w4.heap.size + 1 + 1 + 1, 0, none⟩) 3 3, .slice none 0 0, .int .i64 7, .int .i64 0, .bool false, .int .i64 0, .string ⟨#[]⟩, .string ⟨#[]⟩, .string ⟨#[]⟩, .slice none 0 0, .slice none 0 0, .string ⟨#[]⟩, .slice (some ⟨w4.heap.size + 1 + 1 + 1 + 1, 0, none⟩) 3 3, .slice none 0 0]) HM6.out)
  have HV6 := Lib.hid (heap_alloc_new w6 (.cells #[.int .i64 1, .bool true, .int .i64 0, .string ByteArray.empty, .string ByteArray.empty, .string ByteArray.empty, .slice zA 0 zc, .slice zB 0 zd] 27))
  have HX6 := Lib.hid ((HXw.out.trans hx6).alloc (.cells #[.int .i64 1, .bool true, .int .i64 0, .string ByteArray.empty, .string ByteArray.empty, .string ByteArray.empty, .slice zA 0 zc, .slice zB 0 zd] 27))
  clear hc hv hx6 hin hl hd h6 hk hpos hde hdp hrow HM HXw
  go_wp2_with (first | refine wpList_load_cells rfl 30 _ rfl (w4.heap.size + 1 + 1 + 1 + 1 + 1) 12 rfl Tryz.aggEx Tryz.sizeEx (cs := [.int .i64 5, .int .i64 0, .bool false, .int .i64 0, .string ⟨#[]⟩, .string ⟨#[]⟩, .string ⟨#[]⟩, .slice none 0 0, .slice none 0 0, .string ⟨#[]⟩, .slice (some ⟨w4.heap.size + 1 + 1, 0, none⟩) 2 2, .slice none 0 0]) rfl HCm.out ?_)
  refine HC.out.mono ?_
  rintro e7 w7 ⟨rfl, hx7⟩
  have HV7 := Lib.hid ((hx7.block _ (Blk_lt HV6.out)).trans HV6.out)
  have HX7 := Lib.hid (HX6.out.trans hx7)
  have f0 : w7.cell? ⟨w6.heap.size, 0, none⟩ = some (.int .i64 1) := cell_of_row _ _ 0 _ _ _ HV7.out
  have f1 : w7.cell? ⟨w6.heap.size, 1, none⟩ = some (.bool true) := cell_of_row _ _ 1 _ _ _ HV7.out
  clear hx7 HC HM6 HCm HV6 HX6 HV7
  go_wp2_with fail
  go_ret
  exact ⟨rfl, HX7.out⟩
set_option maxRecDepth 100000 in
set_option maxHeartbeats 4000000 in
theorem evalShort_1d (x : Exp) (k : Int) (hk : k % 4 = 1) (hdp : 50 < x.dep + 1) (W : World) (cs : List Value) (hx : InX W x cs) (hs : Sums W) :
    Calls Tryz.prog 3 #[.agg cs.toArray, .int .i64 k] W fun e W' => e = .returned (.bool true) ∧ Ext W W' := by
  have HXe := Lib.hid hx
  have HS := Lib.hid hs
  have hb : bits .and .i64 k 3 = 1 := by rw [i64_and3]; exact hk
  have HDp := Lib.hid hdp
  obtain ⟨eo, ev, en, eks, ens⟩ := x
  obtain ⟨lk, lb, ln, ls, lt, lu, lA, ll, lc, lB, lm, ld, eK, ec, eN, ed, hcs, _⟩ := Exp.At.shape hx
  obtain rfl : cs = [.int .i64 eo, .int .i64 lk, .bool lb, .int .i64 ln, .string ls, .string lt, .string lu, .slice lA ll lc, .slice lB lm ld, .string en, .slice eK eks.length ec, .slice eN ens.length ed] := hcs
  have HX0 := Lib.hid ((Ext.refl W).alloc (.cells #[.int .i64 eo, .int .i64 lk, .bool lb, .int .i64 ln, .string ls, .string lt, .string lu, .slice lA ll lc, .slice lB lm ld, .string en, .slice eK eks.length ec, .slice eN ens.length ed] 30))
  have HB0 := Lib.hid (heap_alloc_new W (.cells #[.int .i64 eo, .int .i64 lk, .bool lb, .int .i64 ln, .string ls, .string lt, .string lu, .slice lA ll lc, .slice lB lm ld, .string en, .slice eK eks.length ec, .slice eN ens.length ed] 30))
  clear hx hs hk hdp
  go_enter Tryz.func3, Tryz.ntmps3
  go_wp2_with fail
  refine (awake14_ok _ (HS.out.ext HX0.out)).mono ?_
  rintro e1 w1 ⟨rfl, hx⟩
  have HX1 := Lib.hid (HX0.out.trans hx)
  have HB1 := Lib.hid ((hx.block _ (Blk_lt HB0.out)).trans HB0.out)
  clear hx HX0 HB0
  go_wp2_with ((with_reducible refine at_load ?_; refine wpList_load_cells rfl 30 _ rfl W.heap.size 0 rfl Tryz.aggEx Tryz.sizeEx (cs := [.int .i64 eo, .int .i64 lk, .bool lb, .int .i64 ln, .string ls, .string lt, .string lu, .slice lA ll lc, .slice lB lm ld, .string en, .slice eK eks.length ec, .slice eN ens.length ed]) rfl (cells_of_row HB1.out) ?_))
  refine (fit14_ok (Exp.mk eo ev en eks ens) reqZ [] _ [.int .i64 eo, .int .i64 lk, .bool lb, .int .i64 ln, .string ls, .string lt, .string lu, .slice lA ll lc, .slice lB lm ld, .string en, .slice eK eks.length ec, .slice eN ens.length ed] reqC (.slice none 0 0) (HXe.out.ext HX1.out) (reqZ_at _ _) (Rep.RowsAt.nil _ _)).mono ?_
  rintro e2 w2 ⟨r, hr, rfl, hx⟩
  have HX2 := Lib.hid (HX1.out.trans hx)
  have HB2 := Lib.hid ((hx.block _ (Blk_lt HB1.out)).trans HB1.out)
  have HR := Lib.hid hr
  clear hx HX1 HB1 hr
  cases r with
  | false =>
    go_wp2_with fail
    go_ret
    exact ⟨rfl, HX2.out⟩
  | true =>
  have HF := Lib.hid (HR.out rfl)
  clear HR
  go_wp2_with fail
  refine ((lit_ok 1 false 0 ByteArray.empty ByteArray.empty ByteArray.empty none 0 0 none 0 0 _)).mono ?_
  rintro e3 w3 ⟨rfl, hx3⟩
  have HX3 := Lib.hid (HX2.out.trans hx3)
  have HB3 := Lib.hid ((hx3.block _ (Blk_lt HB2.out)).trans HB2.out)
  clear hx3 HX2 HB2
  go_wp2_with fail
  refine ((lit_ok 1 true 0 ByteArray.empty ByteArray.empty ByteArray.empty none 0 0 none 0 0 _)).mono ?_
  rintro e4 w4 ⟨rfl, hx4⟩
  have HF4 := Lib.hid ((hx4.block _ (by simp)).trans (heap_alloc_new w3 (.cells #[.int .i64 1, .int .i64 1, .bool false, .int .i64 0, .string ByteArray.empty, .string ByteArray.empty, .string ByteArray.empty, .slice none 0 0, .slice none 0 0, .string ByteArray.empty, .slice none 0 0, .slice none 0 0] 30)))
  have HB4 := Lib.hid ((((Ext.refl w3).alloc (.cells #[.int .i64 1, .int .i64 1, .bool false, .int .i64 0, .string ByteArray.empty, .string ByteArray.empty, .string ByteArray.empty, .slice none 0 0, .slice none 0 0, .string ByteArray.empty, .slice none 0 0, .slice none 0 0] 30)).trans hx4).block _ (Blk_lt HB3.out) |>.trans HB3.out)
  have HX4 := Lib.hid (HX3.out.trans (((Ext.refl w3).alloc (.cells #[.int .i64 1, .int .i64 1, .bool false, .int .i64 0, .string ByteArray.empty, .string ByteArray.empty, .string ByteArray.empty, .slice none 0 0, .slice none 0 0, .string ByteArray.empty, .slice none 0 0, .slice none 0 0] 30)).trans hx4))
  clear hx4 HX3 HB3
  have HFy := Lib.hid ((heap_alloc_old w4 (.cells #[.int .i64 1, .int .i64 1, .bool true, .int .i64 0, .string ByteArray.empty, .string ByteArray.empty, .string ByteArray.empty, .slice none 0 0, .slice none 0 0, .string ByteArray.empty, .slice none 0 0, .slice none 0 0] 30) (Blk_lt HF4.out)).trans HF4.out)
  have HBy := Lib.hid ((heap_alloc_old w4 (.cells #[.int .i64 1, .int .i64 1, .bool true, .int .i64 0, .string ByteArray.empty, .string ByteArray.empty, .string ByteArray.empty, .slice none 0 0, .slice none 0 0, .string ByteArray.empty, .slice none 0 0, .slice none 0 0] 30) (Blk_lt HB4.out)).trans HB4.out)
  have HTy := Lib.hid (heap_alloc_new w4 (.cells #[.int .i64 1, .int .i64 1, .bool true, .int .i64 0, .string ByteArray.empty, .string ByteArray.empty, .string ByteArray.empty, .slice none 0 0, .slice none 0 0, .string ByteArray.empty, .slice none 0 0, .slice none 0 0] 30))
  have HXy := Lib.hid (HX4.out.alloc (.cells #[.int .i64 1, .int .i64 1, .bool true, .int .i64 0, .string ByteArray.empty, .string ByteArray.empty, .string ByteArray.empty, .slice none 0 0, .slice none 0 0, .string ByteArray.empty, .slice none 0 0, .slice none 0 0] 30))
  clear HF4 HB4 HX4
  go_wp2_with (first | (with_reducible refine at_load ?_; refine wpList_load_cells rfl 30 _ rfl w3.heap.size 0 rfl Tryz.aggEx Tryz.sizeEx (cs := [.int .i64 1, .int .i64 1, .bool false, .int .i64 0, .string ByteArray.empty, .string ByteArray.empty, .string ByteArray.empty, .slice none 0 0, .slice none 0 0, .string ByteArray.empty, .slice none 0 0, .slice none 0 0]) rfl (cells_of_row (by with_reducible first | exact HFy.out | exact keep_alloc (HFy.out) | exact keep_alloc (keep_alloc (HFy.out)) | exact keep_alloc (keep_alloc (keep_alloc (HFy.out))) | exact keep_alloc (keep_alloc (keep_alloc (keep_alloc (HFy.out)))))) ?_) | (with_reducible refine at_load ?_; refine wpList_load_cells rfl 30 _ rfl W.heap.size 0 rfl Tryz.aggEx Tryz.sizeEx (cs := [.int .i64 eo, .int .i64 lk, .bool lb, .int .i64 ln, .string ls, .string lt, .string lu, .slice lA ll lc, .slice lB lm ld, .string en, .slice eK eks.length ec, .slice eN ens.length ed]) rfl (cells_of_row (by with_reducible first | exact HBy.out | exact keep_alloc (HBy.out) | exact keep_alloc (keep_alloc (HBy.out)) | exact keep_alloc (keep_alloc (keep_alloc (HBy.out))) | exact keep_alloc (keep_alloc (keep_alloc (keep_alloc (HBy.out)))))) ?_) | (with_reducible refine at_load ?_; refine wpList_load_cells rfl 30 _ rfl w4.heap.size 0 rfl Tryz.aggEx Tryz.sizeEx (cs := [.int .i64 1, .int .i64 1, .bool true, .int .i64 0, .string ByteArray.empty, .string ByteArray.empty, .string ByteArray.empty, .slice none 0 0, .slice none 0 0, .string ByteArray.empty, .slice none 0 0, .slice none 0 0]) rfl (cells_of_row (by with_reducible first | exact HTy.out | exact keep_alloc (HTy.out) | exact keep_alloc (keep_alloc (HTy.out)) | exact keep_alloc (keep_alloc (keep_alloc (HTy.out))) | exact keep_alloc (keep_alloc (keep_alloc (keep_alloc (HTy.out)))))) ?_))
  obtain ⟨w5, hW, m0, m1, m2, m3, m4, hx5⟩ := heapA5 (w4.alloc (.cells #[.int .i64 1, .int .i64 1, .bool true, .int .i64 0, .string ByteArray.empty, .string ByteArray.empty, .string ByteArray.empty, .slice none 0 0, .slice none 0 0, .string ByteArray.empty, .slice none 0 0, .slice none 0 0] 30)) (.cells #[.int .i64 1, .int .i64 1, .bool false, .int .i64 0, .string ByteArray.empty, .string ByteArray.empty, .string ByteArray.empty, .slice none 0 0, .slice none 0 0, .string ByteArray.empty, .slice none 0 0, .slice none 0 0, .int .i64 eo, .int .i64 lk, .bool lb, .int .i64 ln, .string ls, .string lt, .string lu, .slice lA ll lc, .slice lB lm ld, .string en, .slice eK eks.length ec, .slice eN ens.length ed] 30) (.cells #[.int .i64 1, .int .i64 1, .bool true, .int .i64 0, .string ByteArray.empty, .string ByteArray.empty, .string ByteArray.empty, .slice none 0 0, .slice none 0 0, .string ByteArray.empty, .slice none 0 0, .slice none 0 0, .int .i64 eo, .int .i64 lk, .bool lb, .int .i64 ln, .string ls, .string lt, .string lu, .slice lA ll lc, .slice lB lm ld, .string en, .slice eK eks.length ec, .slice eN ens.length ed] 30) (.cells #[.int .i64 1, .int .i64 1, .bool true, .int .i64 0, .string ByteArray.empty, .string ByteArray.empty, .string ByteArray.empty, .slice none 0 0, .slice none 0 0, .string ByteArray.empty, .slice none 0 0, .slice none 0 0, .int .i64 1, .int .i64 1, .bool true, .int .i64 0, .string ByteArray.empty, .string ByteArray.empty, .string ByteArray.empty, .slice none 0 0, .slice none 0 0, .string ByteArray.empty, .slice none 0 0, .slice none 0 0, .int .i64 eo, .int .i64 lk, .bool lb, .int .i64 ln, .string ls, .string lt, .string lu, .slice lA ll lc, .slice lB lm ld, .string en, .slice eK eks.length ec, .slice eN ens.length ed] 30) (.cells #[.int .i64 1, .int .i64 1, .bool false, .int .i64 0, .string ByteArray.empty, .string ByteArray.empty, .string ByteArray.empty, .slice none 0 0, .slice none 0 0, .string ByteArray.empty, .slice none 0 0, .slice none 0 0, .int .i64 eo, .int .i64 lk, .bool lb, .int .i64 ln, .string ls, .string lt, .string lu, .slice lA ll lc, .slice lB lm ld, .string en, .slice eK eks.length ec, .slice eN ens.length ed, .int .i64 1, .int .i64 1, .bool true, .int .i64 0, .string ByteArray.empty, .string ByteArray.empty, .string ByteArray.empty, .slice none 0 0, .slice none 0 0, .string ByteArray.empty, .slice none 0 0, .slice none 0 0] 30) (.cells #[.int .i64 4, .int .i64 0, .bool false, .int .i64 0, .string ⟨#[]⟩, .string ⟨#[]⟩, .string ⟨#[]⟩, .slice none 0 0, .slice none 0 0, .string ⟨#[]⟩, .slice (some ⟨w4.heap.size + 1, 0, none⟩) 2 2, .slice none 0 0, .int .i64 5, .int .i64 0, .bool false, .int .i64 0, .string ⟨#[]⟩, .string ⟨#[]⟩, .string ⟨#[]⟩, .slice none 0 0, .slice none 0 0, .string ⟨#[]⟩, .slice (some ⟨w4.heap.size + 1 + 1, 0, none⟩) 2 2, .slice none 0 0, .int .i64 7, .int .i64 0, .bool false, .int .i64 0, .string ⟨#[]⟩, .string ⟨#[]⟩, .string ⟨#[]⟩, .slice none 0 0, .slice none 0 0, .string ⟨#[]⟩, .slice (some ⟨w4.heap.size + 1 + 1 + 1, 0, none⟩) 3 3, .slice none 0 0, .int .i64 7, .int .i64 0, .bool false, .int .i64 0, .string ⟨#[]⟩, .string ⟨#[]⟩, .string ⟨#[]⟩, .slice none 0 0, .slice none 0 0, .string ⟨#[]⟩, .slice (some ⟨w4.heap.size + 1 + 1 + 1 + 1, 0, none⟩) 3 3, .slice none 0 0] 30)
  rw [← hW]
  have hsz : (w4.alloc (.cells #[.int .i64 1, .int .i64 1, .bool true, .int .i64 0, .string ByteArray.empty, .string ByteArray.empty, .string ByteArray.empty, .slice none 0 0, .slice none 0 0, .string ByteArray.empty, .slice none 0 0, .slice none 0 0] 30)).heap.size = w4.heap.size + 1 := by simp
  rw [hsz] at m0 m1 m2 m3 m4
  have HM := Lib.hid (show w5.heap[w4.heap.size + 1 + 1 + 1 + 1 + 1]? = some (.cells #[.int .i64 4, .int .i64 0, .bool false, .int .i64 0, .string ⟨#[]⟩, .string ⟨#[]⟩, .string ⟨#[]⟩, .slice none 0 0, .slice none 0 0, .string ⟨#[]⟩, .slice (some ⟨w4.heap.size + 1, 0, none⟩) 2 2, .slice none 0 0, .int .i64 5, .int .i64 0, .bool false, .int .i64 0, .string ⟨#[]⟩, .string ⟨#[]⟩, .string ⟨#[]⟩, .slice none 0 0, .slice none 0 0, .string ⟨#[]⟩, .slice (some ⟨w4.heap.size + 1 + 1, 0, none⟩) 2 2, .slice none 0 0, .int .i64 7, .int .i64 0, .bool false, .int .i64 0, .string ⟨#[]⟩, .string ⟨#[]⟩, .string ⟨#[]⟩, .slice none 0 0, .slice none 0 0, .string ⟨#[]⟩, .slice (some ⟨w4.heap.size + 1 + 1 + 1, 0, none⟩) 3 3, .slice none 0 0, .int .i64 7, .int .i64 0, .bool false, .int .i64 0, .string ⟨#[]⟩, .string ⟨#[]⟩, .string ⟨#[]⟩, .slice none 0 0, .slice none 0 0, .string ⟨#[]⟩, .slice (some ⟨w4.heap.size + 1 + 1 + 1 + 1, 0, none⟩) 3 3, .slice none 0 0] 30 (0, 0)) from m4)
  have HXw := Lib.hid (HXy.out.trans hx5)
  have hrow : w5.heap[w4.heap.size + 1 + 1]? = some (.cells (([.int .i64 1, .int .i64 1, .bool true, .int .i64 0, .string ByteArray.empty, .string ByteArray.empty, .string ByteArray.empty, .slice none 0 0, .slice none 0 0, .string ByteArray.empty, .slice none 0 0, .slice none 0 0] : List Value) ++ (([.int .i64 eo, .int .i64 lk, .bool lb, .int .i64 ln, .string ls, .string lt, .string lu, .slice lA ll lc, .slice lB lm ld, .string en, .slice eK eks.length ec, .slice eN ens.length ed] : List Value) ++ (([] : List Value)))).toArray 30 (0, 0)) := m1
  clear hW m0 m1 m2 m3 m4 hx5 hsz HXy HFy HBy HTy
  have hk : expR.RowsAt (fun b => b < w5.heap.size) w5 [.lit (.truth true), (Exp.mk eo ev en eks ens)] (.slice (some ⟨w4.heap.size + 1 + 1, 0, none⟩) 2 2) := kids_at hrow (flat_cons (cs := [.int .i64 1, .int .i64 1, .bool true, .int .i64 0, .string ByteArray.empty, .string ByteArray.empty, .string ByteArray.empty, .slice none 0 0, .slice none 0 0, .string ByteArray.empty, .slice none 0 0, .slice none 0 0]) (lit_at (truth_at _ _ true)) (flat_cons (cs := [.int .i64 eo, .int .i64 lk, .bool lb, .int .i64 ln, .string ls, .string lt, .string lu, .slice lA ll lc, .slice lB lm ld, .string en, .slice eK eks.length ec, .slice eN ens.length ed]) (Exp.At.mono (fun b hb => Nat.lt_of_lt_of_le hb HXw.out.size) _ _ (Exp.At.alike (Alike.of_ext HXw.out fun _ h => h) _ _ HXe.out)) (flat_nil))) (by rw [LIM_eq]; simp) rfl (by simp) (by rw [maxLen_eq]; omega)
  have hpos : 1 ≤ (Exp.mk eo ev en eks ens).dep := by rw [Exp.dep_def]; omega
  have hde : (Exp.of 5 [.lit (.truth true), (Exp.mk eo ev en eks ens)]).dep = (Exp.mk eo ev en eks ens).dep + 1 := by
    rw [Exp.of_dep]
    simp only [Exp.deps, Exp.lit_dep]
    omega
  have hd := HDp.out
  have hl : (Exp.of 5 [.lit (.truth true), (Exp.mk eo ev en eks ens)]).lits 1000000 := Exp.of_lits (by omega) (by
    intro y hy
    simp only [List.mem_cons, List.mem_nil_iff, or_false] at hy
    rcases hy with rfl | rfl <;> first | exact Exp.lit_lits (by decide) | exact Exp.lits_mono (by omega) _ HF.out.lits)
  have hin : InX w5 (.of 5 [.lit (.truth true), (Exp.mk eo ev en eks ens)]) (opC 5 (.slice (some ⟨w4.heap.size + 1 + 1, 0, none⟩) 2 2)) := of_at (by unfold I64; omega) hk
  have h6 := HF.out.dep
  have hc := evalZ_ok (.of 5 [.lit (.truth true), (Exp.mk eo ev en eks ens)]) (.zero, 11) w5 (opC 5 (.slice (some ⟨w4.heap.size + 1 + 1, 0, none⟩) 2 2)) (by
    unfold Exp.eval
    rw [if_pos (by rw [hde]; omega)]; rfl) (by rw [hde]; omega) hl hin (HS.out.ext HXw.out)
  refine hc.mono ?_
  rintro e6 w6 ⟨cv, rfl, hv, hx6⟩
  obtain ⟨zA, zc, zB, zd, rfl⟩ := hv.opened
  have HC := Lib.hid (depthR_ok (SizeOf.sizeOf (Exp.of 5 [.lit (.truth true), (Exp.mk eo ev en eks ens)])) (.of 5 [.lit (.truth true), (Exp.mk eo ev en eks ens)]) (w6.alloc (.cells #[.int .i64 0, .bool false, .int .i64 0, .string ByteArray.empty, .string ByteArray.empty, .string ByteArray.empty, .slice zA 0 zc, .slice zB 0 zd] 27)) (opC 5 (.slice (some ⟨w4.heap.size + 1 + 1, 0, none⟩) 2 2)) (Nat.le_refl _) (by rw [hde]; omega) (hin.ext (hx6.alloc _)))
  obtain ⟨dp, hdp⟩ : ∃ d, (Exp.of 5 [.lit (.truth true), (Exp.mk eo ev en eks ens)]).dep = d := ⟨_, rfl⟩
  rw [hdp] at HC hde
  have t0 : decide ((50 : Int) < (dp : Int)) = true := by simp; omega
  have HM6 := Lib.hid ((heap_alloc_old w6 (.cells #[.int .i64 0, .bool false, .int .i64 0, .string ByteArray.empty, .string ByteArray.empty, .string ByteArray.empty, .slice zA 0 zc, .slice zB 0 zd] 27) (Blk_lt ((hx6.block _ (Blk_lt HM.out)).trans HM.out))).trans ((hx6.block _ (Blk_lt HM.out)).trans HM.out))
  have HCm := Lib.hid (cells_mid (pre := [.int .i64 4, .int .i64 0, .bool false, .int .i64 0, .string ⟨#[]⟩, .string ⟨#[]⟩, .string ⟨#[]⟩, .slice none 0 0, .slice none 0 0, .string ⟨#[]⟩, .slice (some ⟨w4.heap.size + 1, 0, none⟩) 2 2, .slice none 0 0]) (cs := [.int .i64 5, .int .i64 0, .bool false, .int .i64 0, .string ⟨#[]⟩, .string ⟨#[]⟩, .string ⟨#[]⟩, .slice none 0 0, .slice none 0 0, .string ⟨#[]⟩, .slice (some ⟨w4.heap.size + 1 + 1, 0, none⟩) 2 2, .slice none 0 0]) (r := [.int .i64 7, .int .i64 0, .bool false, .int .i64 0, .string ⟨#[]⟩, .string ⟨#[]⟩, .string ⟨#[]⟩, .slice none 0 0, .slice none 0 0, .string ⟨#[]⟩, .slice (some ⟨w4.heap.size + 1 + 1 + 1, 0, none⟩) 3 3, .slice none 0 0, .int .i64 7, .int .i64 0, .bool false, .int .i64 0, .string ⟨#[]⟩, .string ⟨#[]⟩, .string ⟨#[]⟩, .slice none 0 0, .slice none 0 0, .string ⟨#[]⟩, .slice (some ⟨w4.heap.size + 1 + 1 + 1 + 1, 0, none⟩) 3 3, .slice none 0 0]) HM6.out)
  have HV6 := Lib.hid (heap_alloc_new w6 (.cells #[.int .i64 0, .bool false, .int .i64 0, .string ByteArray.empty, .string ByteArray.empty, .string ByteArray.empty, .slice zA 0 zc, .slice zB 0 zd] 27))
  have HX6 := Lib.hid ((HXw.out.trans hx6).alloc (.cells #[.int .i64 0, .bool false, .int .i64 0, .string ByteArray.empty, .string ByteArray.empty, .string ByteArray.empty, .slice zA 0 zc, .slice zB 0 zd] 27))
  clear hc hv hx6 hin hl hd h6 hk hpos hde hdp hrow HM HXw
  go_wp2_with (first | refine wpList_load_cells rfl 30 _ rfl (w4.heap.size + 1 + 1 + 1 + 1 + 1) 12 rfl Tryz.aggEx Tryz.sizeEx (cs := [.int .i64 5, .int .i64 0, .bool false, .int .i64 0, .string ⟨#[]⟩, .string ⟨#[]⟩, .string ⟨#[]⟩, .slice none 0 0, .slice none 0 0, .string ⟨#[]⟩, .slice (some ⟨w4.heap.size + 1 + 1, 0, none⟩) 2 2, .slice none 0 0]) rfl HCm.out ?_)
  refine HC.out.mono ?_
  rintro e7 w7 ⟨rfl, hx7⟩
  have HV7 := Lib.hid ((hx7.block _ (Blk_lt HV6.out)).trans HV6.out)
  have HX7 := Lib.hid (HX6.out.trans hx7)
  have f0 : w7.cell? ⟨w6.heap.size, 0, none⟩ = some (.int .i64 0) := cell_of_row _ _ 0 _ _ _ HV7.out
  have f1 : w7.cell? ⟨w6.heap.size, 1, none⟩ = some (.bool false) := cell_of_row _ _ 1 _ _ _ HV7.out
  clear hx7 HC HM6 HCm HV6 HX6 HV7
  go_wp2_with fail
  go_ret
  exact ⟨rfl, HX7.out⟩
set_option maxRecDepth 100000 in
set_option maxHeartbeats 4000000 in
theorem evalShort_2s (x : Exp) (k : Int) (hk : k % 4 = 2) (hdp : x.dep + 1 ≤ 50) (W : World) (cs : List Value) (hx : InX W x cs) (hs : Sums W) :
    Calls Tryz.prog 3 #[.agg cs.toArray, .int .i64 k] W fun e W' => e = .returned (.bool true) ∧ Ext W W' := by
  have HXe := Lib.hid hx
  have HS := Lib.hid hs
  have hb : bits .and .i64 k 3 = 2 := by rw [i64_and3]; exact hk
  have HDp := Lib.hid hdp
  obtain ⟨eo, ev, en, eks, ens⟩ := x
  obtain ⟨lk, lb, ln, ls, lt, lu, lA, ll, lc, lB, lm, ld, eK, ec, eN, ed, hcs, _⟩ := Exp.At.shape hx
  obtain rfl : cs = [.int .i64 eo, .int .i64 lk, .bool lb, .int .i64 ln, .string ls, .string lt, .string lu, .slice lA ll lc, .slice lB lm ld, .string en, .slice eK eks.length ec, .slice eN ens.length ed] := hcs
  have HX0 := Lib.hid ((Ext.refl W).alloc (.cells #[.int .i64 eo, .int .i64 lk, .bool lb, .int .i64 ln, .string ls, .string lt, .string lu, .slice lA ll lc, .slice lB lm ld, .string en, .slice eK eks.length ec, .slice eN ens.length ed] 30))
  have HB0 := Lib.hid (heap_alloc_new W (.cells #[.int .i64 eo, .int .i64 lk, .bool lb, .int .i64 ln, .string ls, .string lt, .string lu, .slice lA ll lc, .slice lB lm ld, .string en, .slice eK eks.length ec, .slice eN ens.length ed] 30))
  clear hx hs hk hdp
  go_enter Tryz.func3, Tryz.ntmps3
  go_wp2_with fail
  refine (awake14_ok _ (HS.out.ext HX0.out)).mono ?_
  rintro e1 w1 ⟨rfl, hx⟩
  have HX1 := Lib.hid (HX0.out.trans hx)
  have HB1 := Lib.hid ((hx.block _ (Blk_lt HB0.out)).trans HB0.out)
  clear hx HX0 HB0
  go_wp2_with ((with_reducible refine at_load ?_; refine wpList_load_cells rfl 30 _ rfl W.heap.size 0 rfl Tryz.aggEx Tryz.sizeEx (cs := [.int .i64 eo, .int .i64 lk, .bool lb, .int .i64 ln, .string ls, .string lt, .string lu, .slice lA ll lc, .slice lB lm ld, .string en, .slice eK eks.length ec, .slice eN ens.length ed]) rfl (cells_of_row HB1.out) ?_))
  refine (fit14_ok (Exp.mk eo ev en eks ens) reqZ [] _ [.int .i64 eo, .int .i64 lk, .bool lb, .int .i64 ln, .string ls, .string lt, .string lu, .slice lA ll lc, .slice lB lm ld, .string en, .slice eK eks.length ec, .slice eN ens.length ed] reqC (.slice none 0 0) (HXe.out.ext HX1.out) (reqZ_at _ _) (Rep.RowsAt.nil _ _)).mono ?_
  rintro e2 w2 ⟨r, hr, rfl, hx⟩
  have HX2 := Lib.hid (HX1.out.trans hx)
  have HB2 := Lib.hid ((hx.block _ (Blk_lt HB1.out)).trans HB1.out)
  have HR := Lib.hid hr
  clear hx HX1 HB1 hr
  cases r with
  | false =>
    go_wp2_with fail
    go_ret
    exact ⟨rfl, HX2.out⟩
  | true =>
  have HF := Lib.hid (HR.out rfl)
  clear HR
  go_wp2_with fail
  refine ((lit_ok 1 false 0 ByteArray.empty ByteArray.empty ByteArray.empty none 0 0 none 0 0 _)).mono ?_
  rintro e3 w3 ⟨rfl, hx3⟩
  have HX3 := Lib.hid (HX2.out.trans hx3)
  have HB3 := Lib.hid ((hx3.block _ (Blk_lt HB2.out)).trans HB2.out)
  clear hx3 HX2 HB2
  go_wp2_with fail
  refine ((lit_ok 1 true 0 ByteArray.empty ByteArray.empty ByteArray.empty none 0 0 none 0 0 _)).mono ?_
  rintro e4 w4 ⟨rfl, hx4⟩
  have HF4 := Lib.hid ((hx4.block _ (by simp)).trans (heap_alloc_new w3 (.cells #[.int .i64 1, .int .i64 1, .bool false, .int .i64 0, .string ByteArray.empty, .string ByteArray.empty, .string ByteArray.empty, .slice none 0 0, .slice none 0 0, .string ByteArray.empty, .slice none 0 0, .slice none 0 0] 30)))
  have HB4 := Lib.hid ((((Ext.refl w3).alloc (.cells #[.int .i64 1, .int .i64 1, .bool false, .int .i64 0, .string ByteArray.empty, .string ByteArray.empty, .string ByteArray.empty, .slice none 0 0, .slice none 0 0, .string ByteArray.empty, .slice none 0 0, .slice none 0 0] 30)).trans hx4).block _ (Blk_lt HB3.out) |>.trans HB3.out)
  have HX4 := Lib.hid (HX3.out.trans (((Ext.refl w3).alloc (.cells #[.int .i64 1, .int .i64 1, .bool false, .int .i64 0, .string ByteArray.empty, .string ByteArray.empty, .string ByteArray.empty, .slice none 0 0, .slice none 0 0, .string ByteArray.empty, .slice none 0 0, .slice none 0 0] 30)).trans hx4))
  clear hx4 HX3 HB3
  have HFy := Lib.hid ((heap_alloc_old w4 (.cells #[.int .i64 1, .int .i64 1, .bool true, .int .i64 0, .string ByteArray.empty, .string ByteArray.empty, .string ByteArray.empty, .slice none 0 0, .slice none 0 0, .string ByteArray.empty, .slice none 0 0, .slice none 0 0] 30) (Blk_lt HF4.out)).trans HF4.out)
  have HBy := Lib.hid ((heap_alloc_old w4 (.cells #[.int .i64 1, .int .i64 1, .bool true, .int .i64 0, .string ByteArray.empty, .string ByteArray.empty, .string ByteArray.empty, .slice none 0 0, .slice none 0 0, .string ByteArray.empty, .slice none 0 0, .slice none 0 0] 30) (Blk_lt HB4.out)).trans HB4.out)
  have HTy := Lib.hid (heap_alloc_new w4 (.cells #[.int .i64 1, .int .i64 1, .bool true, .int .i64 0, .string ByteArray.empty, .string ByteArray.empty, .string ByteArray.empty, .slice none 0 0, .slice none 0 0, .string ByteArray.empty, .slice none 0 0, .slice none 0 0] 30))
  have HXy := Lib.hid (HX4.out.alloc (.cells #[.int .i64 1, .int .i64 1, .bool true, .int .i64 0, .string ByteArray.empty, .string ByteArray.empty, .string ByteArray.empty, .slice none 0 0, .slice none 0 0, .string ByteArray.empty, .slice none 0 0, .slice none 0 0] 30))
  clear HF4 HB4 HX4
  go_wp2_with (first | (with_reducible refine at_load ?_; refine wpList_load_cells rfl 30 _ rfl w3.heap.size 0 rfl Tryz.aggEx Tryz.sizeEx (cs := [.int .i64 1, .int .i64 1, .bool false, .int .i64 0, .string ByteArray.empty, .string ByteArray.empty, .string ByteArray.empty, .slice none 0 0, .slice none 0 0, .string ByteArray.empty, .slice none 0 0, .slice none 0 0]) rfl (cells_of_row (by with_reducible first | exact HFy.out | exact keep_alloc (HFy.out) | exact keep_alloc (keep_alloc (HFy.out)) | exact keep_alloc (keep_alloc (keep_alloc (HFy.out))) | exact keep_alloc (keep_alloc (keep_alloc (keep_alloc (HFy.out)))))) ?_) | (with_reducible refine at_load ?_; refine wpList_load_cells rfl 30 _ rfl W.heap.size 0 rfl Tryz.aggEx Tryz.sizeEx (cs := [.int .i64 eo, .int .i64 lk, .bool lb, .int .i64 ln, .string ls, .string lt, .string lu, .slice lA ll lc, .slice lB lm ld, .string en, .slice eK eks.length ec, .slice eN ens.length ed]) rfl (cells_of_row (by with_reducible first | exact HBy.out | exact keep_alloc (HBy.out) | exact keep_alloc (keep_alloc (HBy.out)) | exact keep_alloc (keep_alloc (keep_alloc (HBy.out))) | exact keep_alloc (keep_alloc (keep_alloc (keep_alloc (HBy.out)))))) ?_) | (with_reducible refine at_load ?_; refine wpList_load_cells rfl 30 _ rfl w4.heap.size 0 rfl Tryz.aggEx Tryz.sizeEx (cs := [.int .i64 1, .int .i64 1, .bool true, .int .i64 0, .string ByteArray.empty, .string ByteArray.empty, .string ByteArray.empty, .slice none 0 0, .slice none 0 0, .string ByteArray.empty, .slice none 0 0, .slice none 0 0]) rfl (cells_of_row (by with_reducible first | exact HTy.out | exact keep_alloc (HTy.out) | exact keep_alloc (keep_alloc (HTy.out)) | exact keep_alloc (keep_alloc (keep_alloc (HTy.out))) | exact keep_alloc (keep_alloc (keep_alloc (keep_alloc (HTy.out)))))) ?_))
  obtain ⟨w5, hW, m0, m1, m2, m3, m4, hx5⟩ := heapA5 (w4.alloc (.cells #[.int .i64 1, .int .i64 1, .bool true, .int .i64 0, .string ByteArray.empty, .string ByteArray.empty, .string ByteArray.empty, .slice none 0 0, .slice none 0 0, .string ByteArray.empty, .slice none 0 0, .slice none 0 0] 30)) (.cells #[.int .i64 1, .int .i64 1, .bool false, .int .i64 0, .string ByteArray.empty, .string ByteArray.empty, .string ByteArray.empty, .slice none 0 0, .slice none 0 0, .string ByteArray.empty, .slice none 0 0, .slice none 0 0, .int .i64 eo, .int .i64 lk, .bool lb, .int .i64 ln, .string ls, .string lt, .string lu, .slice lA ll lc, .slice lB lm ld, .string en, .slice eK eks.length ec, .slice eN ens.length ed] 30) (.cells #[.int .i64 1, .int .i64 1, .bool true, .int .i64 0, .string ByteArray.empty, .string ByteArray.empty, .string ByteArray.empty, .slice none 0 0, .slice none 0 0, .string ByteArray.empty, .slice none 0 0, .slice none 0 0, .int .i64 eo, .int .i64 lk, .bool lb, .int .i64 ln, .string ls, .string lt, .string lu, .slice lA ll lc, .slice lB lm ld, .string en, .slice eK eks.length ec, .slice eN ens.length ed] 30) (.cells #[.int .i64 1, .int .i64 1, .bool true, .int .i64 0, .string ByteArray.empty, .string ByteArray.empty, .string ByteArray.empty, .slice none 0 0, .slice none 0 0, .string ByteArray.empty, .slice none 0 0, .slice none 0 0, .int .i64 1, .int .i64 1, .bool true, .int .i64 0, .string ByteArray.empty, .string ByteArray.empty, .string ByteArray.empty, .slice none 0 0, .slice none 0 0, .string ByteArray.empty, .slice none 0 0, .slice none 0 0, .int .i64 eo, .int .i64 lk, .bool lb, .int .i64 ln, .string ls, .string lt, .string lu, .slice lA ll lc, .slice lB lm ld, .string en, .slice eK eks.length ec, .slice eN ens.length ed] 30) (.cells #[.int .i64 1, .int .i64 1, .bool false, .int .i64 0, .string ByteArray.empty, .string ByteArray.empty, .string ByteArray.empty, .slice none 0 0, .slice none 0 0, .string ByteArray.empty, .slice none 0 0, .slice none 0 0, .int .i64 eo, .int .i64 lk, .bool lb, .int .i64 ln, .string ls, .string lt, .string lu, .slice lA ll lc, .slice lB lm ld, .string en, .slice eK eks.length ec, .slice eN ens.length ed, .int .i64 1, .int .i64 1, .bool true, .int .i64 0, .string ByteArray.empty, .string ByteArray.empty, .string ByteArray.empty, .slice none 0 0, .slice none 0 0, .string ByteArray.empty, .slice none 0 0, .slice none 0 0] 30) (.cells #[.int .i64 4, .int .i64 0, .bool false, .int .i64 0, .string ⟨#[]⟩, .string ⟨#[]⟩, .string ⟨#[]⟩, .slice none 0 0, .slice none 0 0, .string ⟨#[]⟩, .slice (some ⟨w4.heap.size + 1, 0, none⟩) 2 2, .slice none 0 0, .int .i64 5, .int .i64 0, .bool false, .int .i64 0, .string ⟨#[]⟩, .string ⟨#[]⟩, .string ⟨#[]⟩, .slice none 0 0, .slice none 0 0, .string ⟨#[]⟩, .slice (some ⟨w4.heap.size + 1 + 1, 0, none⟩) 2 2, .slice none 0 0, .int .i64 7, .int .i64 0, .bool false, .int .i64 0, .string ⟨#[]⟩, .string ⟨#[]⟩, .string ⟨#[]⟩, .slice none 0 0, .slice none 0 0, .string ⟨#[]⟩, .slice (some ⟨w4.heap.size + 1 + 1 + 1, 0, none⟩) 3 3, .slice none 0 0, .int .i64 7, .int .i64 0, .bool false, .int .i64 0, .string ⟨#[]⟩, .string ⟨#[]⟩, .string ⟨#[]⟩, .slice none 0 0, .slice none 0 0, .string ⟨#[]⟩, .slice (some ⟨w4.heap.size + 1 + 1 + 1 + 1, 0, none⟩) 3 3, .slice none 0 0] 30)
  rw [← hW]
  have hsz : (w4.alloc (.cells #[.int .i64 1, .int .i64 1, .bool true, .int .i64 0, .string ByteArray.empty, .string ByteArray.empty, .string ByteArray.empty, .slice none 0 0, .slice none 0 0, .string ByteArray.empty, .slice none 0 0, .slice none 0 0] 30)).heap.size = w4.heap.size + 1 := by simp
  rw [hsz] at m0 m1 m2 m3 m4
  have HM := Lib.hid (show w5.heap[w4.heap.size + 1 + 1 + 1 + 1 + 1]? = some (.cells #[.int .i64 4, .int .i64 0, .bool false, .int .i64 0, .string ⟨#[]⟩, .string ⟨#[]⟩, .string ⟨#[]⟩, .slice none 0 0, .slice none 0 0, .string ⟨#[]⟩, .slice (some ⟨w4.heap.size + 1, 0, none⟩) 2 2, .slice none 0 0, .int .i64 5, .int .i64 0, .bool false, .int .i64 0, .string ⟨#[]⟩, .string ⟨#[]⟩, .string ⟨#[]⟩, .slice none 0 0, .slice none 0 0, .string ⟨#[]⟩, .slice (some ⟨w4.heap.size + 1 + 1, 0, none⟩) 2 2, .slice none 0 0, .int .i64 7, .int .i64 0, .bool false, .int .i64 0, .string ⟨#[]⟩, .string ⟨#[]⟩, .string ⟨#[]⟩, .slice none 0 0, .slice none 0 0, .string ⟨#[]⟩, .slice (some ⟨w4.heap.size + 1 + 1 + 1, 0, none⟩) 3 3, .slice none 0 0, .int .i64 7, .int .i64 0, .bool false, .int .i64 0, .string ⟨#[]⟩, .string ⟨#[]⟩, .string ⟨#[]⟩, .slice none 0 0, .slice none 0 0, .string ⟨#[]⟩, .slice (some ⟨w4.heap.size + 1 + 1 + 1 + 1, 0, none⟩) 3 3, .slice none 0 0] 30 (0, 0)) from m4)
  have HXw := Lib.hid (HXy.out.trans hx5)
  have hrow : w5.heap[w4.heap.size + 1 + 1 + 1]? = some (.cells (([.int .i64 1, .int .i64 1, .bool true, .int .i64 0, .string ByteArray.empty, .string ByteArray.empty, .string ByteArray.empty, .slice none 0 0, .slice none 0 0, .string ByteArray.empty, .slice none 0 0, .slice none 0 0] : List Value) ++ (([.int .i64 1, .int .i64 1, .bool true, .int .i64 0, .string ByteArray.empty, .string ByteArray.empty, .string ByteArray.empty, .slice none 0 0, .slice none 0 0, .string ByteArray.empty, .slice none 0 0, .slice none 0 0] : List Value) ++ (([.int .i64 eo, .int .i64 lk, .bool lb, .int .i64 ln, .string ls, .string lt, .string lu, .slice lA ll lc, .slice lB lm ld, .string en, .slice eK eks.length ec, .slice eN ens.length ed] : List Value) ++ (([] : List Value))))).toArray 30 (0, 0)) := m2
  clear hW m0 m1 m2 m3 m4 hx5 hsz HXy HFy HBy HTy
  have hk : expR.RowsAt (fun b => b < w5.heap.size) w5 [.lit (.truth true), .lit (.truth true), (Exp.mk eo ev en eks ens)] (.slice (some ⟨w4.heap.size + 1 + 1 + 1, 0, none⟩) 3 3) := kids_at hrow (flat_cons (cs := [.int .i64 1, .int .i64 1, .bool true, .int .i64 0, .string ByteArray.empty, .string ByteArray.empty, .string ByteArray.empty, .slice none 0 0, .slice none 0 0, .string ByteArray.empty, .slice none 0 0, .slice none 0 0]) (lit_at (truth_at _ _ true)) (flat_cons (cs := [.int .i64 1, .int .i64 1, .bool true, .int .i64 0, .string ByteArray.empty, .string ByteArray.empty, .string ByteArray.empty, .slice none 0 0, .slice none 0 0, .string ByteArray.empty, .slice none 0 0, .slice none 0 0]) (lit_at (truth_at _ _ true)) (flat_cons (cs := [.int .i64 eo, .int .i64 lk, .bool lb, .int .i64 ln, .string ls, .string lt, .string lu, .slice lA ll lc, .slice lB lm ld, .string en, .slice eK eks.length ec, .slice eN ens.length ed]) (Exp.At.mono (fun b hb => Nat.lt_of_lt_of_le hb HXw.out.size) _ _ (Exp.At.alike (Alike.of_ext HXw.out fun _ h => h) _ _ HXe.out)) (flat_nil)))) (by rw [LIM_eq]; simp) rfl (by simp) (by rw [maxLen_eq]; omega)
  have hpos : 1 ≤ (Exp.mk eo ev en eks ens).dep := by rw [Exp.dep_def]; omega
  have hde : (Exp.of 7 [.lit (.truth true), .lit (.truth true), (Exp.mk eo ev en eks ens)]).dep = (Exp.mk eo ev en eks ens).dep + 1 := by
    rw [Exp.of_dep]
    simp only [Exp.deps, Exp.lit_dep]
    omega
  have hd := HDp.out
  have hl : (Exp.of 7 [.lit (.truth true), .lit (.truth true), (Exp.mk eo ev en eks ens)]).lits 1000000 := Exp.of_lits (by omega) (by
    intro y hy
    simp only [List.mem_cons, List.mem_nil_iff, or_false] at hy
    rcases hy with rfl | rfl | rfl <;> first | exact Exp.lit_lits (by decide) | exact Exp.lits_mono (by omega) _ HF.out.lits)
  have hin : InX w5 (.of 7 [.lit (.truth true), .lit (.truth true), (Exp.mk eo ev en eks ens)]) (opC 7 (.slice (some ⟨w4.heap.size + 1 + 1 + 1, 0, none⟩) 3 3)) := of_at (by unfold I64; omega) hk
  have h6 := HF.out.dep
  have hc := evalZ_ok (.of 7 [.lit (.truth true), .lit (.truth true), (Exp.mk eo ev en eks ens)]) (.truth true, 0) w5 (opC 7 (.slice (some ⟨w4.heap.size + 1 + 1 + 1, 0, none⟩) 3 3)) (by
    unfold Exp.eval
    rw [if_neg (by rw [hde]; omega), short_ev reqZ [] (Exp.mk eo ev en eks ens) 2 (by omega) _ rfl]; rfl) (by rw [hde]; omega) hl hin (HS.out.ext HXw.out)
  refine hc.mono ?_
  rintro e6 w6 ⟨cv, rfl, hv, hx6⟩
  obtain ⟨zA, zc, zB, zd, rfl⟩ := hv.opened
  have HC := Lib.hid (depthR_ok (SizeOf.sizeOf (Exp.of 7 [.lit (.truth true), .lit (.truth true), (Exp.mk eo ev en eks ens)])) (.of 7 [.lit (.truth true), .lit (.truth true), (Exp.mk eo ev en eks ens)]) (w6.alloc (.cells #[.int .i64 1, .bool true, .int .i64 0, .string ByteArray.empty, .string ByteArray.empty, .string ByteArray.empty, .slice zA 0 zc, .slice zB 0 zd] 27)) (opC 7 (.slice (some ⟨w4.heap.size + 1 + 1 + 1, 0, none⟩) 3 3)) (Nat.le_refl _) (by rw [hde]; omega) (hin.ext (hx6.alloc _)))
  obtain ⟨dp, hdp⟩ : ∃ d, (Exp.of 7 [.lit (.truth true), .lit (.truth true), (Exp.mk eo ev en eks ens)]).dep = d := ⟨_, rfl⟩
  rw [hdp] at HC hde
  have t0 : decide ((50 : Int) < (dp : Int)) = false := by simp; omega
  have HM6 := Lib.hid ((heap_alloc_old w6 (.cells #[.int .i64 1, .bool true, .int .i64 0, .string ByteArray.empty, .string ByteArray.empty, .string ByteArray.empty, .slice zA 0 zc, .slice zB 0 zd] 27) (Blk_lt ((hx6.block _ (Blk_lt HM.out)).trans HM.out))).trans ((hx6.block _ (Blk_lt HM.out)).trans HM.out))
  have HCm := Lib.hid (cells_mid (pre := [.int .i64 4, .int .i64 0, .bool false, .int .i64 0, .string ⟨#[]⟩, .string ⟨#[]⟩, .string ⟨#[]⟩, .slice none 0 0, .slice none 0 0, .string ⟨#[]⟩, .slice (some ⟨w4.heap.size + 1, 0, none⟩) 2 2, .slice none 0 0, .int .i64 5, .int .i64 0, .bool false, .int .i64 0, .string ⟨#[]⟩, .string ⟨#[]⟩, .string ⟨#[]⟩, .slice none 0 0, .slice none 0 0, .string ⟨#[]⟩, .slice (some ⟨w4.heap.size + 1 + 1, 0, none⟩) 2 2, .slice none 0 0]) (cs := [.int .i64 7, .int .i64 0, .bool false, .int .i64 0, .string ⟨#[]⟩, .string ⟨#[]⟩, .string ⟨#[]⟩, .slice none 0 0, .slice none 0 0, .string ⟨#[]⟩, .slice (some ⟨w4.heap.size + 1 + 1 + 1, 0, none⟩) 3 3, .slice none 0 0]) (r := [.int .i64 7, .int .i64 0, .bool false, .int .i64 0, .string ⟨#[]⟩, .string ⟨#[]⟩, .string ⟨#[]⟩, .slice none 0 0, .slice none 0 0, .string ⟨#[]⟩, .slice (some ⟨w4.heap.size + 1 + 1 + 1 + 1, 0, none⟩) 3 3, .slice none 0 0]) HM6.out)
  have HV6 := Lib.hid (heap_alloc_new w6 (.cells #[.int .i64 1, .bool true, .int .i64 0, .string ByteArray.empty, .string ByteArray.empty, .string ByteArray.empty, .slice zA 0 zc, .slice zB 0 zd] 27))
  have HX6 := Lib.hid ((HXw.out.trans hx6).alloc (.cells #[.int .i64 1, .bool true, .int .i64 0, .string ByteArray.empty, .string ByteArray.empty, .string ByteArray.empty, .slice zA 0 zc, .slice zB 0 zd] 27))
  clear hc hv hx6 hin hl hd h6 hk hpos hde hdp hrow HM HXw
  go_wp2_with (first | refine wpList_load_cells rfl 30 _ rfl (w4.heap.size + 1 + 1 + 1 + 1 + 1) 24 rfl Tryz.aggEx Tryz.sizeEx (cs := [.int .i64 7, .int .i64 0, .bool false, .int .i64 0, .string ⟨#[]⟩, .string ⟨#[]⟩, .string ⟨#[]⟩, .slice none 0 0, .slice none 0 0, .string ⟨#[]⟩, .slice (some ⟨w4.heap.size + 1 + 1 + 1, 0, none⟩) 3 3, .slice none 0 0]) rfl HCm.out ?_)
  refine HC.out.mono ?_
  rintro e7 w7 ⟨rfl, hx7⟩
  have HV7 := Lib.hid ((hx7.block _ (Blk_lt HV6.out)).trans HV6.out)
  have HX7 := Lib.hid (HX6.out.trans hx7)
  have f0 : w7.cell? ⟨w6.heap.size, 0, none⟩ = some (.int .i64 1) := cell_of_row _ _ 0 _ _ _ HV7.out
  have f1 : w7.cell? ⟨w6.heap.size, 1, none⟩ = some (.bool true) := cell_of_row _ _ 1 _ _ _ HV7.out
  clear hx7 HC HM6 HCm HV6 HX6 HV7
  go_wp2_with fail
  go_ret
  exact ⟨rfl, HX7.out⟩
set_option maxRecDepth 100000 in
set_option maxHeartbeats 4000000 in
theorem evalShort_2d (x : Exp) (k : Int) (hk : k % 4 = 2) (hdp : 50 < x.dep + 1) (W : World) (cs : List Value) (hx : InX W x cs) (hs : Sums W) :
    Calls Tryz.prog 3 #[.agg cs.toArray, .int .i64 k] W fun e W' => e = .returned (.bool true) ∧ Ext W W' := by
  have HXe := Lib.hid hx
  have HS := Lib.hid hs
  have hb : bits .and .i64 k 3 = 2 := by rw [i64_and3]; exact hk
  have HDp := Lib.hid hdp
  obtain ⟨eo, ev, en, eks, ens⟩ := x
  obtain ⟨lk, lb, ln, ls, lt, lu, lA, ll, lc, lB, lm, ld, eK, ec, eN, ed, hcs, _⟩ := Exp.At.shape hx
  obtain rfl : cs = [.int .i64 eo, .int .i64 lk, .bool lb, .int .i64 ln, .string ls, .string lt, .string lu, .slice lA ll lc, .slice lB lm ld, .string en, .slice eK eks.length ec, .slice eN ens.length ed] := hcs
  have HX0 := Lib.hid ((Ext.refl W).alloc (.cells #[.int .i64 eo, .int .i64 lk, .bool lb, .int .i64 ln, .string ls, .string lt, .string lu, .slice lA ll lc, .slice lB lm ld, .string en, .slice eK eks.length ec, .slice eN ens.length ed] 30))
  have HB0 := Lib.hid (heap_alloc_new W (.cells #[.int .i64 eo, .int .i64 lk, .bool lb, .int .i64 ln, .string ls, .string lt, .string lu, .slice lA ll lc, .slice lB lm ld, .string en, .slice eK eks.length ec, .slice eN ens.length ed] 30))
  clear hx hs hk hdp
  go_enter Tryz.func3, Tryz.ntmps3
  go_wp2_with fail
  refine (awake14_ok _ (HS.out.ext HX0.out)).mono ?_
  rintro e1 w1 ⟨rfl, hx⟩
  have HX1 := Lib.hid (HX0.out.trans hx)
  have HB1 := Lib.hid ((hx.block _ (Blk_lt HB0.out)).trans HB0.out)
  clear hx HX0 HB0
  go_wp2_with ((with_reducible refine at_load ?_; refine wpList_load_cells rfl 30 _ rfl W.heap.size 0 rfl Tryz.aggEx Tryz.sizeEx (cs := [.int .i64 eo, .int .i64 lk, .bool lb, .int .i64 ln, .string ls, .string lt, .string lu, .slice lA ll lc, .slice lB lm ld, .string en, .slice eK eks.length ec, .slice eN ens.length ed]) rfl (cells_of_row HB1.out) ?_))
  refine (fit14_ok (Exp.mk eo ev en eks ens) reqZ [] _ [.int .i64 eo, .int .i64 lk, .bool lb, .int .i64 ln, .string ls, .string lt, .string lu, .slice lA ll lc, .slice lB lm ld, .string en, .slice eK eks.length ec, .slice eN ens.length ed] reqC (.slice none 0 0) (HXe.out.ext HX1.out) (reqZ_at _ _) (Rep.RowsAt.nil _ _)).mono ?_
  rintro e2 w2 ⟨r, hr, rfl, hx⟩
  have HX2 := Lib.hid (HX1.out.trans hx)
  have HB2 := Lib.hid ((hx.block _ (Blk_lt HB1.out)).trans HB1.out)
  have HR := Lib.hid hr
  clear hx HX1 HB1 hr
  cases r with
  | false =>
    go_wp2_with fail
    go_ret
    exact ⟨rfl, HX2.out⟩
  | true =>
  have HF := Lib.hid (HR.out rfl)
  clear HR
  go_wp2_with fail
  refine ((lit_ok 1 false 0 ByteArray.empty ByteArray.empty ByteArray.empty none 0 0 none 0 0 _)).mono ?_
  rintro e3 w3 ⟨rfl, hx3⟩
  have HX3 := Lib.hid (HX2.out.trans hx3)
  have HB3 := Lib.hid ((hx3.block _ (Blk_lt HB2.out)).trans HB2.out)
  clear hx3 HX2 HB2
  go_wp2_with fail
  refine ((lit_ok 1 true 0 ByteArray.empty ByteArray.empty ByteArray.empty none 0 0 none 0 0 _)).mono ?_
  rintro e4 w4 ⟨rfl, hx4⟩
  have HF4 := Lib.hid ((hx4.block _ (by simp)).trans (heap_alloc_new w3 (.cells #[.int .i64 1, .int .i64 1, .bool false, .int .i64 0, .string ByteArray.empty, .string ByteArray.empty, .string ByteArray.empty, .slice none 0 0, .slice none 0 0, .string ByteArray.empty, .slice none 0 0, .slice none 0 0] 30)))
  have HB4 := Lib.hid ((((Ext.refl w3).alloc (.cells #[.int .i64 1, .int .i64 1, .bool false, .int .i64 0, .string ByteArray.empty, .string ByteArray.empty, .string ByteArray.empty, .slice none 0 0, .slice none 0 0, .string ByteArray.empty, .slice none 0 0, .slice none 0 0] 30)).trans hx4).block _ (Blk_lt HB3.out) |>.trans HB3.out)
  have HX4 := Lib.hid (HX3.out.trans (((Ext.refl w3).alloc (.cells #[.int .i64 1, .int .i64 1, .bool false, .int .i64 0, .string ByteArray.empty, .string ByteArray.empty, .string ByteArray.empty, .slice none 0 0, .slice none 0 0, .string ByteArray.empty, .slice none 0 0, .slice none 0 0] 30)).trans hx4))
  clear hx4 HX3 HB3
  have HFy := Lib.hid ((heap_alloc_old w4 (.cells #[.int .i64 1, .int .i64 1, .bool true, .int .i64 0, .string ByteArray.empty, .string ByteArray.empty, .string ByteArray.empty, .slice none 0 0, .slice none 0 0, .string ByteArray.empty, .slice none 0 0, .slice none 0 0] 30) (Blk_lt HF4.out)).trans HF4.out)
  have HBy := Lib.hid ((heap_alloc_old w4 (.cells #[.int .i64 1, .int .i64 1, .bool true, .int .i64 0, .string ByteArray.empty, .string ByteArray.empty, .string ByteArray.empty, .slice none 0 0, .slice none 0 0, .string ByteArray.empty, .slice none 0 0, .slice none 0 0] 30) (Blk_lt HB4.out)).trans HB4.out)
  have HTy := Lib.hid (heap_alloc_new w4 (.cells #[.int .i64 1, .int .i64 1, .bool true, .int .i64 0, .string ByteArray.empty, .string ByteArray.empty, .string ByteArray.empty, .slice none 0 0, .slice none 0 0, .string ByteArray.empty, .slice none 0 0, .slice none 0 0] 30))
  have HXy := Lib.hid (HX4.out.alloc (.cells #[.int .i64 1, .int .i64 1, .bool true, .int .i64 0, .string ByteArray.empty, .string ByteArray.empty, .string ByteArray.empty, .slice none 0 0, .slice none 0 0, .string ByteArray.empty, .slice none 0 0, .slice none 0 0] 30))
  clear HF4 HB4 HX4
  go_wp2_with (first | (with_reducible refine at_load ?_; refine wpList_load_cells rfl 30 _ rfl w3.heap.size 0 rfl Tryz.aggEx Tryz.sizeEx (cs := [.int .i64 1, .int .i64 1, .bool false, .int .i64 0, .string ByteArray.empty, .string ByteArray.empty, .string ByteArray.empty, .slice none 0 0, .slice none 0 0, .string ByteArray.empty, .slice none 0 0, .slice none 0 0]) rfl (cells_of_row (by with_reducible first | exact HFy.out | exact keep_alloc (HFy.out) | exact keep_alloc (keep_alloc (HFy.out)) | exact keep_alloc (keep_alloc (keep_alloc (HFy.out))) | exact keep_alloc (keep_alloc (keep_alloc (keep_alloc (HFy.out)))))) ?_) | (with_reducible refine at_load ?_; refine wpList_load_cells rfl 30 _ rfl W.heap.size 0 rfl Tryz.aggEx Tryz.sizeEx (cs := [.int .i64 eo, .int .i64 lk, .bool lb, .int .i64 ln, .string ls, .string lt, .string lu, .slice lA ll lc, .slice lB lm ld, .string en, .slice eK eks.length ec, .slice eN ens.length ed]) rfl (cells_of_row (by with_reducible first | exact HBy.out | exact keep_alloc (HBy.out) | exact keep_alloc (keep_alloc (HBy.out)) | exact keep_alloc (keep_alloc (keep_alloc (HBy.out))) | exact keep_alloc (keep_alloc (keep_alloc (keep_alloc (HBy.out)))))) ?_) | (with_reducible refine at_load ?_; refine wpList_load_cells rfl 30 _ rfl w4.heap.size 0 rfl Tryz.aggEx Tryz.sizeEx (cs := [.int .i64 1, .int .i64 1, .bool true, .int .i64 0, .string ByteArray.empty, .string ByteArray.empty, .string ByteArray.empty, .slice none 0 0, .slice none 0 0, .string ByteArray.empty, .slice none 0 0, .slice none 0 0]) rfl (cells_of_row (by with_reducible first | exact HTy.out | exact keep_alloc (HTy.out) | exact keep_alloc (keep_alloc (HTy.out)) | exact keep_alloc (keep_alloc (keep_alloc (HTy.out))) | exact keep_alloc (keep_alloc (keep_alloc (keep_alloc (HTy.out)))))) ?_))
  obtain ⟨w5, hW, m0, m1, m2, m3, m4, hx5⟩ := heapA5 (w4.alloc (.cells #[.int .i64 1, .int .i64 1, .bool true, .int .i64 0, .string ByteArray.empty, .string ByteArray.empty, .string ByteArray.empty, .slice none 0 0, .slice none 0 0, .string ByteArray.empty, .slice none 0 0, .slice none 0 0] 30)) (.cells #[.int .i64 1, .int .i64 1, .bool false, .int .i64 0, .string ByteArray.empty, .string ByteArray.empty, .string ByteArray.empty, .slice none 0 0, .slice none 0 0, .string ByteArray.empty, .slice none 0 0, .slice none 0 0, .int .i64 eo, .int .i64 lk, .bool lb, .int .i64 ln, .string ls, .string lt, .string lu, .slice lA ll lc, .slice lB lm ld, .string en, .slice eK eks.length ec, .slice eN ens.length ed] 30) (.cells #[.int .i64 1, .int .i64 1, .bool true, .int .i64 0, .string ByteArray.empty, .string ByteArray.empty, .string ByteArray.empty, .slice none 0 0, .slice none 0 0, .string ByteArray.empty, .slice none 0 0, .slice none 0 0, .int .i64 eo, .int .i64 lk, .bool lb, .int .i64 ln, .string ls, .string lt, .string lu, .slice lA ll lc, .slice lB lm ld, .string en, .slice eK eks.length ec, .slice eN ens.length ed] 30) (.cells #[.int .i64 1, .int .i64 1, .bool true, .int .i64 0, .string ByteArray.empty, .string ByteArray.empty, .string ByteArray.empty, .slice none 0 0, .slice none 0 0, .string ByteArray.empty, .slice none 0 0, .slice none 0 0, .int .i64 1, .int .i64 1, .bool true, .int .i64 0, .string ByteArray.empty, .string ByteArray.empty, .string ByteArray.empty, .slice none 0 0, .slice none 0 0, .string ByteArray.empty, .slice none 0 0, .slice none 0 0, .int .i64 eo, .int .i64 lk, .bool lb, .int .i64 ln, .string ls, .string lt, .string lu, .slice lA ll lc, .slice lB lm ld, .string en, .slice eK eks.length ec, .slice eN ens.length ed] 30) (.cells #[.int .i64 1, .int .i64 1, .bool false, .int .i64 0, .string ByteArray.empty, .string ByteArray.empty, .string ByteArray.empty, .slice none 0 0, .slice none 0 0, .string ByteArray.empty, .slice none 0 0, .slice none 0 0, .int .i64 eo, .int .i64 lk, .bool lb, .int .i64 ln, .string ls, .string lt, .string lu, .slice lA ll lc, .slice lB lm ld, .string en, .slice eK eks.length ec, .slice eN ens.length ed, .int .i64 1, .int .i64 1, .bool true, .int .i64 0, .string ByteArray.empty, .string ByteArray.empty, .string ByteArray.empty, .slice none 0 0, .slice none 0 0, .string ByteArray.empty, .slice none 0 0, .slice none 0 0] 30) (.cells #[.int .i64 4, .int .i64 0, .bool false, .int .i64 0, .string ⟨#[]⟩, .string ⟨#[]⟩, .string ⟨#[]⟩, .slice none 0 0, .slice none 0 0, .string ⟨#[]⟩, .slice (some ⟨w4.heap.size + 1, 0, none⟩) 2 2, .slice none 0 0, .int .i64 5, .int .i64 0, .bool false, .int .i64 0, .string ⟨#[]⟩, .string ⟨#[]⟩, .string ⟨#[]⟩, .slice none 0 0, .slice none 0 0, .string ⟨#[]⟩, .slice (some ⟨w4.heap.size + 1 + 1, 0, none⟩) 2 2, .slice none 0 0, .int .i64 7, .int .i64 0, .bool false, .int .i64 0, .string ⟨#[]⟩, .string ⟨#[]⟩, .string ⟨#[]⟩, .slice none 0 0, .slice none 0 0, .string ⟨#[]⟩, .slice (some ⟨w4.heap.size + 1 + 1 + 1, 0, none⟩) 3 3, .slice none 0 0, .int .i64 7, .int .i64 0, .bool false, .int .i64 0, .string ⟨#[]⟩, .string ⟨#[]⟩, .string ⟨#[]⟩, .slice none 0 0, .slice none 0 0, .string ⟨#[]⟩, .slice (some ⟨w4.heap.size + 1 + 1 + 1 + 1, 0, none⟩) 3 3, .slice none 0 0] 30)
  rw [← hW]
  have hsz : (w4.alloc (.cells #[.int .i64 1, .int .i64 1, .bool true, .int .i64 0, .string ByteArray.empty, .string ByteArray.empty, .string ByteArray.empty, .slice none 0 0, .slice none 0 0, .string ByteArray.empty, .slice none 0 0, .slice none 0 0] 30)).heap.size = w4.heap.size + 1 := by simp
  rw [hsz] at m0 m1 m2 m3 m4
  have HM := Lib.hid (show w5.heap[w4.heap.size + 1 + 1 + 1 + 1 + 1]? = some (.cells #[.int .i64 4, .int .i64 0, .bool false, .int .i64 0, .string ⟨#[]⟩, .string ⟨#[]⟩, .string ⟨#[]⟩, .slice none 0 0, .slice none 0 0, .string ⟨#[]⟩, .slice (some ⟨w4.heap.size + 1, 0, none⟩) 2 2, .slice none 0 0, .int .i64 5, .int .i64 0, .bool false, .int .i64 0, .string ⟨#[]⟩, .string ⟨#[]⟩, .string ⟨#[]⟩, .slice none 0 0, .slice none 0 0, .string ⟨#[]⟩, .slice (some ⟨w4.heap.size + 1 + 1, 0, none⟩) 2 2, .slice none 0 0, .int .i64 7, .int .i64 0, .bool false, .int .i64 0, .string ⟨#[]⟩, .string ⟨#[]⟩, .string ⟨#[]⟩, .slice none 0 0, .slice none 0 0, .string ⟨#[]⟩, .slice (some ⟨w4.heap.size + 1 + 1 + 1, 0, none⟩) 3 3, .slice none 0 0, .int .i64 7, .int .i64 0, .bool false, .int .i64 0, .string ⟨#[]⟩, .string ⟨#[]⟩, .string ⟨#[]⟩, .slice none 0 0, .slice none 0 0, .string ⟨#[]⟩, .slice (some ⟨w4.heap.size + 1 + 1 + 1 + 1, 0, none⟩) 3 3, .slice none 0 0] 30 (0, 0)) from m4)
  have HXw := Lib.hid (HXy.out.trans hx5)
  have hrow : w5.heap[w4.heap.size + 1 + 1 + 1]? = some (.cells (([.int .i64 1, .int .i64 1, .bool true, .int .i64 0, .string ByteArray.empty, .string ByteArray.empty, .string ByteArray.empty, .slice none 0 0, .slice none 0 0, .string ByteArray.empty, .slice none 0 0, .slice none 0 0] : List Value) ++ (([.int .i64 1, .int .i64 1, .bool true, .int .i64 0, .string ByteArray.empty, .string ByteArray.empty, .string ByteArray.empty, .slice none 0 0, .slice none 0 0, .string ByteArray.empty, .slice none 0 0, .slice none 0 0] : List Value) ++ (([.int .i64 eo, .int .i64 lk, .bool lb, .int .i64 ln, .string ls, .string lt, .string lu, .slice lA ll lc, .slice lB lm ld, .string en, .slice eK eks.length ec, .slice eN ens.length ed] : List Value) ++ (([] : List Value))))).toArray 30 (0, 0)) := m2
  clear hW m0 m1 m2 m3 m4 hx5 hsz HXy HFy HBy HTy
  have hk : expR.RowsAt (fun b => b < w5.heap.size) w5 [.lit (.truth true), .lit (.truth true), (Exp.mk eo ev en eks ens)] (.slice (some ⟨w4.heap.size + 1 + 1 + 1, 0, none⟩) 3 3) := kids_at hrow (flat_cons (cs := [.int .i64 1, .int .i64 1, .bool true, .int .i64 0, .string ByteArray.empty, .string ByteArray.empty, .string ByteArray.empty, .slice none 0 0, .slice none 0 0, .string ByteArray.empty, .slice none 0 0, .slice none 0 0]) (lit_at (truth_at _ _ true)) (flat_cons (cs := [.int .i64 1, .int .i64 1, .bool true, .int .i64 0, .string ByteArray.empty, .string ByteArray.empty, .string ByteArray.empty, .slice none 0 0, .slice none 0 0, .string ByteArray.empty, .slice none 0 0, .slice none 0 0]) (lit_at (truth_at _ _ true)) (flat_cons (cs := [.int .i64 eo, .int .i64 lk, .bool lb, .int .i64 ln, .string ls, .string lt, .string lu, .slice lA ll lc, .slice lB lm ld, .string en, .slice eK eks.length ec, .slice eN ens.length ed]) (Exp.At.mono (fun b hb => Nat.lt_of_lt_of_le hb HXw.out.size) _ _ (Exp.At.alike (Alike.of_ext HXw.out fun _ h => h) _ _ HXe.out)) (flat_nil)))) (by rw [LIM_eq]; simp) rfl (by simp) (by rw [maxLen_eq]; omega)
  have hpos : 1 ≤ (Exp.mk eo ev en eks ens).dep := by rw [Exp.dep_def]; omega
  have hde : (Exp.of 7 [.lit (.truth true), .lit (.truth true), (Exp.mk eo ev en eks ens)]).dep = (Exp.mk eo ev en eks ens).dep + 1 := by
    rw [Exp.of_dep]
    simp only [Exp.deps, Exp.lit_dep]
    omega
  have hd := HDp.out
  have hl : (Exp.of 7 [.lit (.truth true), .lit (.truth true), (Exp.mk eo ev en eks ens)]).lits 1000000 := Exp.of_lits (by omega) (by
    intro y hy
    simp only [List.mem_cons, List.mem_nil_iff, or_false] at hy
    rcases hy with rfl | rfl | rfl <;> first | exact Exp.lit_lits (by decide) | exact Exp.lits_mono (by omega) _ HF.out.lits)
  have hin : InX w5 (.of 7 [.lit (.truth true), .lit (.truth true), (Exp.mk eo ev en eks ens)]) (opC 7 (.slice (some ⟨w4.heap.size + 1 + 1 + 1, 0, none⟩) 3 3)) := of_at (by unfold I64; omega) hk
  have h6 := HF.out.dep
  have hc := evalZ_ok (.of 7 [.lit (.truth true), .lit (.truth true), (Exp.mk eo ev en eks ens)]) (.zero, 11) w5 (opC 7 (.slice (some ⟨w4.heap.size + 1 + 1 + 1, 0, none⟩) 3 3)) (by
    unfold Exp.eval
    rw [if_pos (by rw [hde]; omega)]; rfl) (by rw [hde]; omega) hl hin (HS.out.ext HXw.out)
  refine hc.mono ?_
  rintro e6 w6 ⟨cv, rfl, hv, hx6⟩
  obtain ⟨zA, zc, zB, zd, rfl⟩ := hv.opened
  have HC := Lib.hid (depthR_ok (SizeOf.sizeOf (Exp.of 7 [.lit (.truth true), .lit (.truth true), (Exp.mk eo ev en eks ens)])) (.of 7 [.lit (.truth true), .lit (.truth true), (Exp.mk eo ev en eks ens)]) (w6.alloc (.cells #[.int .i64 0, .bool false, .int .i64 0, .string ByteArray.empty, .string ByteArray.empty, .string ByteArray.empty, .slice zA 0 zc, .slice zB 0 zd] 27)) (opC 7 (.slice (some ⟨w4.heap.size + 1 + 1 + 1, 0, none⟩) 3 3)) (Nat.le_refl _) (by rw [hde]; omega) (hin.ext (hx6.alloc _)))
  obtain ⟨dp, hdp⟩ : ∃ d, (Exp.of 7 [.lit (.truth true), .lit (.truth true), (Exp.mk eo ev en eks ens)]).dep = d := ⟨_, rfl⟩
  rw [hdp] at HC hde
  have t0 : decide ((50 : Int) < (dp : Int)) = true := by simp; omega
  have HM6 := Lib.hid ((heap_alloc_old w6 (.cells #[.int .i64 0, .bool false, .int .i64 0, .string ByteArray.empty, .string ByteArray.empty, .string ByteArray.empty, .slice zA 0 zc, .slice zB 0 zd] 27) (Blk_lt ((hx6.block _ (Blk_lt HM.out)).trans HM.out))).trans ((hx6.block _ (Blk_lt HM.out)).trans HM.out))
  have HCm := Lib.hid (cells_mid (pre := [.int .i64 4, .int .i64 0, .bool false, .int .i64 0, .string ⟨#[]⟩, .string ⟨#[]⟩, .string ⟨#[]⟩, .slice none 0 0, .slice none 0 0, .string ⟨#[]⟩, .slice (some ⟨w4.heap.size + 1, 0, none⟩) 2 2, .slice none 0 0, .int .i64 5, .int .i64 0, .bool false, .int .i64 0, .string ⟨#[]⟩, .string ⟨#[]⟩, .string ⟨#[]⟩, .slice none 0 0, .slice none 0 0, .string ⟨#[]⟩, .slice (some ⟨w4.heap.size + 1 + 1, 0, none⟩) 2 2, .slice none 0 0]) (cs := [.int .i64 7, .int .i64 0, .bool false, .int .i64 0, .string ⟨#[]⟩, .string ⟨#[]⟩, .string ⟨#[]⟩, .slice none 0 0, .slice none 0 0, .string ⟨#[]⟩, .slice (some ⟨w4.heap.size + 1 + 1 + 1, 0, none⟩) 3 3, .slice none 0 0]) (r := [.int .i64 7, .int .i64 0, .bool false, .int .i64 0, .string ⟨#[]⟩, .string ⟨#[]⟩, .string ⟨#[]⟩, .slice none 0 0, .slice none 0 0, .string ⟨#[]⟩, .slice (some ⟨w4.heap.size + 1 + 1 + 1 + 1, 0, none⟩) 3 3, .slice none 0 0]) HM6.out)
  have HV6 := Lib.hid (heap_alloc_new w6 (.cells #[.int .i64 0, .bool false, .int .i64 0, .string ByteArray.empty, .string ByteArray.empty, .string ByteArray.empty, .slice zA 0 zc, .slice zB 0 zd] 27))
  have HX6 := Lib.hid ((HXw.out.trans hx6).alloc (.cells #[.int .i64 0, .bool false, .int .i64 0, .string ByteArray.empty, .string ByteArray.empty, .string ByteArray.empty, .slice zA 0 zc, .slice zB 0 zd] 27))
  clear hc hv hx6 hin hl hd h6 hk hpos hde hdp hrow HM HXw
  go_wp2_with (first | refine wpList_load_cells rfl 30 _ rfl (w4.heap.size + 1 + 1 + 1 + 1 + 1) 24 rfl Tryz.aggEx Tryz.sizeEx (cs := [.int .i64 7, .int .i64 0, .bool false, .int .i64 0, .string ⟨#[]⟩, .string ⟨#[]⟩, .string ⟨#[]⟩, .slice none 0 0, .slice none 0 0, .string ⟨#[]⟩, .slice (some ⟨w4.heap.size + 1 + 1 + 1, 0, none⟩) 3 3, .slice none 0 0]) rfl HCm.out ?_)
  refine HC.out.mono ?_
  rintro e7 w7 ⟨rfl, hx7⟩
  have HV7 := Lib.hid ((hx7.block _ (Blk_lt HV6.out)).trans HV6.out)
  have HX7 := Lib.hid (HX6.out.trans hx7)
  have f0 : w7.cell? ⟨w6.heap.size, 0, none⟩ = some (.int .i64 0) := cell_of_row _ _ 0 _ _ _ HV7.out
  have f1 : w7.cell? ⟨w6.heap.size, 1, none⟩ = some (.bool false) := cell_of_row _ _ 1 _ _ _ HV7.out
  clear hx7 HC HM6 HCm HV6 HX6 HV7
  go_wp2_with fail
  go_ret
  exact ⟨rfl, HX7.out⟩
set_option maxRecDepth 100000 in
set_option maxHeartbeats 4000000 in
theorem evalShort_3s (x : Exp) (k : Int) (hk : k % 4 = 3) (hdp : x.dep + 1 ≤ 50) (W : World) (cs : List Value) (hx : InX W x cs) (hs : Sums W) :
    Calls Tryz.prog 3 #[.agg cs.toArray, .int .i64 k] W fun e W' => e = .returned (.bool true) ∧ Ext W W' := by
  have HXe := Lib.hid hx
  have HS := Lib.hid hs
  have hb : bits .and .i64 k 3 = 3 := by rw [i64_and3]; exact hk
  have HDp := Lib.hid hdp
  obtain ⟨eo, ev, en, eks, ens⟩ := x
  obtain ⟨lk, lb, ln, ls, lt, lu, lA, ll, lc, lB, lm, ld, eK, ec, eN, ed, hcs, _⟩ := Exp.At.shape hx
  obtain rfl : cs = [.int .i64 eo, .int .i64 lk, .bool lb, .int .i64 ln, .string ls, .string lt, .string lu, .slice lA ll lc, .slice lB lm ld, .string en, .slice eK eks.length ec, .slice eN ens.length ed] := hcs
  have HX0 := Lib.hid ((Ext.refl W).alloc (.cells #[.int .i64 eo, .int .i64 lk, .bool lb, .int .i64 ln, .string ls, .string lt, .string lu, .slice lA ll lc, .slice lB lm ld, .string en, .slice eK eks.length ec, .slice eN ens.length ed] 30))
  have HB0 := Lib.hid (heap_alloc_new W (.cells #[.int .i64 eo, .int .i64 lk, .bool lb, .int .i64 ln, .string ls, .string lt, .string lu, .slice lA ll lc, .slice lB lm ld, .string en, .slice eK eks.length ec, .slice eN ens.length ed] 30))
  clear hx hs hk hdp
  go_enter Tryz.func3, Tryz.ntmps3
  go_wp2_with fail
  refine (awake14_ok _ (HS.out.ext HX0.out)).mono ?_
  rintro e1 w1 ⟨rfl, hx⟩
  have HX1 := Lib.hid (HX0.out.trans hx)
  have HB1 := Lib.hid ((hx.block _ (Blk_lt HB0.out)).trans HB0.out)
  clear hx HX0 HB0
  go_wp2_with ((with_reducible refine at_load ?_; refine wpList_load_cells rfl 30 _ rfl W.heap.size 0 rfl Tryz.aggEx Tryz.sizeEx (cs := [.int .i64 eo, .int .i64 lk, .bool lb, .int .i64 ln, .string ls, .string lt, .string lu, .slice lA ll lc, .slice lB lm ld, .string en, .slice eK eks.length ec, .slice eN ens.length ed]) rfl (cells_of_row HB1.out) ?_))
  refine (fit14_ok (Exp.mk eo ev en eks ens) reqZ [] _ [.int .i64 eo, .int .i64 lk, .bool lb, .int .i64 ln, .string ls, .string lt, .string lu, .slice lA ll lc, .slice lB lm ld, .string en, .slice eK eks.length ec, .slice eN ens.length ed] reqC (.slice none 0 0) (HXe.out.ext HX1.out) (reqZ_at _ _) (Rep.RowsAt.nil _ _)).mono ?_
  rintro e2 w2 ⟨r, hr, rfl, hx⟩
  have HX2 := Lib.hid (HX1.out.trans hx)
  have HB2 := Lib.hid ((hx.block _ (Blk_lt HB1.out)).trans HB1.out)
  have HR := Lib.hid hr
  clear hx HX1 HB1 hr
  cases r with
  | false =>
    go_wp2_with fail
    go_ret
    exact ⟨rfl, HX2.out⟩
  | true =>
  have HF := Lib.hid (HR.out rfl)
  clear HR
  go_wp2_with fail
  refine ((lit_ok 1 false 0 ByteArray.empty ByteArray.empty ByteArray.empty none 0 0 none 0 0 _)).mono ?_
  rintro e3 w3 ⟨rfl, hx3⟩
  have HX3 := Lib.hid (HX2.out.trans hx3)
  have HB3 := Lib.hid ((hx3.block _ (Blk_lt HB2.out)).trans HB2.out)
  clear hx3 HX2 HB2
  go_wp2_with fail
  refine ((lit_ok 1 true 0 ByteArray.empty ByteArray.empty ByteArray.empty none 0 0 none 0 0 _)).mono ?_
  rintro e4 w4 ⟨rfl, hx4⟩
  have HF4 := Lib.hid ((hx4.block _ (by simp)).trans (heap_alloc_new w3 (.cells #[.int .i64 1, .int .i64 1, .bool false, .int .i64 0, .string ByteArray.empty, .string ByteArray.empty, .string ByteArray.empty, .slice none 0 0, .slice none 0 0, .string ByteArray.empty, .slice none 0 0, .slice none 0 0] 30)))
  have HB4 := Lib.hid ((((Ext.refl w3).alloc (.cells #[.int .i64 1, .int .i64 1, .bool false, .int .i64 0, .string ByteArray.empty, .string ByteArray.empty, .string ByteArray.empty, .slice none 0 0, .slice none 0 0, .string ByteArray.empty, .slice none 0 0, .slice none 0 0] 30)).trans hx4).block _ (Blk_lt HB3.out) |>.trans HB3.out)
  have HX4 := Lib.hid (HX3.out.trans (((Ext.refl w3).alloc (.cells #[.int .i64 1, .int .i64 1, .bool false, .int .i64 0, .string ByteArray.empty, .string ByteArray.empty, .string ByteArray.empty, .slice none 0 0, .slice none 0 0, .string ByteArray.empty, .slice none 0 0, .slice none 0 0] 30)).trans hx4))
  clear hx4 HX3 HB3
  have HFy := Lib.hid ((heap_alloc_old w4 (.cells #[.int .i64 1, .int .i64 1, .bool true, .int .i64 0, .string ByteArray.empty, .string ByteArray.empty, .string ByteArray.empty, .slice none 0 0, .slice none 0 0, .string ByteArray.empty, .slice none 0 0, .slice none 0 0] 30) (Blk_lt HF4.out)).trans HF4.out)
  have HBy := Lib.hid ((heap_alloc_old w4 (.cells #[.int .i64 1, .int .i64 1, .bool true, .int .i64 0, .string ByteArray.empty, .string ByteArray.empty, .string ByteArray.empty, .slice none 0 0, .slice none 0 0, .string ByteArray.empty, .slice none 0 0, .slice none 0 0] 30) (Blk_lt HB4.out)).trans HB4.out)
  have HTy := Lib.hid (heap_alloc_new w4 (.cells #[.int .i64 1, .int .i64 1, .bool true, .int .i64 0, .string ByteArray.empty, .string ByteArray.empty, .string ByteArray.empty, .slice none 0 0, .slice none 0 0, .string ByteArray.empty, .slice none 0 0, .slice none 0 0] 30))
  have HXy := Lib.hid (HX4.out.alloc (.cells #[.int .i64 1, .int .i64 1, .bool true, .int .i64 0, .string ByteArray.empty, .string ByteArray.empty, .string ByteArray.empty, .slice none 0 0, .slice none 0 0, .string ByteArray.empty, .slice none 0 0, .slice none 0 0] 30))
  clear HF4 HB4 HX4
  go_wp2_with (first | (with_reducible refine at_load ?_; refine wpList_load_cells rfl 30 _ rfl w3.heap.size 0 rfl Tryz.aggEx Tryz.sizeEx (cs := [.int .i64 1, .int .i64 1, .bool false, .int .i64 0, .string ByteArray.empty, .string ByteArray.empty, .string ByteArray.empty, .slice none 0 0, .slice none 0 0, .string ByteArray.empty, .slice none 0 0, .slice none 0 0]) rfl (cells_of_row (by with_reducible first | exact HFy.out | exact keep_alloc (HFy.out) | exact keep_alloc (keep_alloc (HFy.out)) | exact keep_alloc (keep_alloc (keep_alloc (HFy.out))) | exact keep_alloc (keep_alloc (keep_alloc (keep_alloc (HFy.out)))))) ?_) | (with_reducible refine at_load ?_; refine wpList_load_cells rfl 30 _ rfl W.heap.size 0 rfl Tryz.aggEx Tryz.sizeEx (cs := [.int .i64 eo, .int .i64 lk, .bool lb, .int .i64 ln, .string ls, .string lt, .string lu, .slice lA ll lc, .slice lB lm ld, .string en, .slice eK eks.length ec, .slice eN ens.length ed]) rfl (cells_of_row (by with_reducible first | exact HBy.out | exact keep_alloc (HBy.out) | exact keep_alloc (keep_alloc (HBy.out)) | exact keep_alloc (keep_alloc (keep_alloc (HBy.out))) | exact keep_alloc (keep_alloc (keep_alloc (keep_alloc (HBy.out)))))) ?_) | (with_reducible refine at_load ?_; refine wpList_load_cells rfl 30 _ rfl w4.heap.size 0 rfl Tryz.aggEx Tryz.sizeEx (cs := [.int .i64 1, .int .i64 1, .bool true, .int .i64 0, .string ByteArray.empty, .string ByteArray.empty, .string ByteArray.empty, .slice none 0 0, .slice none 0 0, .string ByteArray.empty, .slice none 0 0, .slice none 0 0]) rfl (cells_of_row (by with_reducible first | exact HTy.out | exact keep_alloc (HTy.out) | exact keep_alloc (keep_alloc (HTy.out)) | exact keep_alloc (keep_alloc (keep_alloc (HTy.out))) | exact keep_alloc (keep_alloc (keep_alloc (keep_alloc (HTy.out)))))) ?_))
  obtain ⟨w5, hW, m0, m1, m2, m3, m4, hx5⟩ := heapA5 (w4.alloc (.cells #[.int .i64 1, .int .i64 1, .bool true, .int .i64 0, .string ByteArray.empty, .string ByteArray.empty, .string ByteArray.empty, .slice none 0 0, .slice none 0 0, .string ByteArray.empty, .slice none 0 0, .slice none 0 0] 30)) (.cells #[.int .i64 1, .int .i64 1, .bool false, .int .i64 0, .string ByteArray.empty, .string ByteArray.empty, .string ByteArray.empty, .slice none 0 0, .slice none 0 0, .string ByteArray.empty, .slice none 0 0, .slice none 0 0, .int .i64 eo, .int .i64 lk, .bool lb, .int .i64 ln, .string ls, .string lt, .string lu, .slice lA ll lc, .slice lB lm ld, .string en, .slice eK eks.length ec, .slice eN ens.length ed] 30) (.cells #[.int .i64 1, .int .i64 1, .bool true, .int .i64 0, .string ByteArray.empty, .string ByteArray.empty, .string ByteArray.empty, .slice none 0 0, .slice none 0 0, .string ByteArray.empty, .slice none 0 0, .slice none 0 0, .int .i64 eo, .int .i64 lk, .bool lb, .int .i64 ln, .string ls, .string lt, .string lu, .slice lA ll lc, .slice lB lm ld, .string en, .slice eK eks.length ec, .slice eN ens.length ed] 30) (.cells #[.int .i64 1, .int .i64 1, .bool true, .int .i64 0, .string ByteArray.empty, .string ByteArray.empty, .string ByteArray.empty, .slice none 0 0, .slice none 0 0, .string ByteArray.empty, .slice none 0 0, .slice none 0 0, .int .i64 1, .int .i64 1, .bool true, .int .i64 0, .string ByteArray.empty, .string ByteArray.empty, .string ByteArray.empty, .slice none 0 0, .slice none 0 0, .string ByteArray.empty, .slice none 0 0, .slice none 0 0, .int .i64 eo, .int .i64 lk, .bool lb, .int .i64 ln, .string ls, .string lt, .string lu, .slice lA ll lc, .slice lB lm ld, .string en, .slice eK eks.length ec, .slice eN ens.length ed] 30) (.cells #[.int .i64 1, .int .i64 1, .bool false, .int .i64 0, .string ByteArray.empty, .string ByteArray.empty, .string ByteArray.empty, .slice none 0 0, .slice none 0 0, .string ByteArray.empty, .slice none 0 0, .slice none 0 0, .int .i64 eo, .int .i64 lk, .bool lb, .int .i64 ln, .string ls, .string lt, .string lu, .slice lA ll lc, .slice lB lm ld, .string en, .slice eK eks.length ec, .slice eN ens.length ed, .int .i64 1, .int .i64 1, .bool true, .int .i64 0, .string ByteArray.empty, .string ByteArray.empty, .string ByteArray.empty, .slice none 0 0, .slice none 0 0, .string ByteArray.empty, .slice none 0 0, .slice none 0 0] 30) (.cells #[.int .i64 4, .int .i64 0, .bool false, .int .i64 0, .string ⟨#[]⟩, .string ⟨#[]⟩, .string ⟨#[]⟩, .slice none 0 0, .slice none 0 0, .string ⟨#[]⟩, .slice (some ⟨w4.heap.size + 1, 0, none⟩) 2 2, .slice none 0 0, .int .i64 5, .int .i64 0, .bool false, .int .i64 0, .string ⟨#[]⟩, .string ⟨#[]⟩, .string ⟨#[]⟩, .slice none 0 0, .slice none 0 0, .string ⟨#[]⟩, .slice (some ⟨w4.heap.size + 1 + 1, 0, none⟩) 2 2, .slice none 0 0, .int .i64 7, .int .i64 0, .bool false, .int .i64 0, .string ⟨#[]⟩, .string ⟨#[]⟩, .string ⟨#[]⟩, .slice none 0 0, .slice none 0 0, .string ⟨#[]⟩, .slice (some ⟨w4.heap.size + 1 + 1 + 1, 0, none⟩) 3 3, .slice none 0 0, .int .i64 7, .int .i64 0, .bool false, .int .i64 0, .string ⟨#[]⟩, .string ⟨#[]⟩, .string ⟨#[]⟩, .slice none 0 0, .slice none 0 0, .string ⟨#[]⟩, .slice (some ⟨w4.heap.size + 1 + 1 + 1 + 1, 0, none⟩) 3 3, .slice none 0 0] 30)
  rw [← hW]
  have hsz : (w4.alloc (.cells #[.int .i64 1, .int .i64 1, .bool true, .int .i64 0, .string ByteArray.empty, .string ByteArray.empty, .string ByteArray.empty, .slice none 0 0, .slice none 0 0, .string ByteArray.empty, .slice none 0 0, .slice none 0 0] 30)).heap.size = w4.heap.size + 1 := by simp
  rw [hsz] at m0 m1 m2 m3 m4
  have HM := Lib.hid (show w5.heap[w4.heap.size + 1 + 1 + 1 + 1 + 1]? = some (.cells #[.int .i64 4, .int .i64 0, .bool false, .int .i64 0, .string ⟨#[]⟩, .string ⟨#[]⟩, .string ⟨#[]⟩, .slice none 0 0, .slice none 0 0, .string ⟨#[]⟩, .slice (some ⟨w4.heap.size + 1, 0, none⟩) 2 2, .slice none 0 0, .int .i64 5, .int .i64 0, .bool false, .int .i64 0, .string ⟨#[]⟩, .string ⟨#[]⟩, .string ⟨#[]⟩, .slice none 0 0, .slice none 0 0, .string ⟨#[]⟩, .slice (some ⟨w4.heap.size + 1 + 1, 0, none⟩) 2 2, .slice none 0 0, .int .i64 7, .int .i64 0, .bool false, .int .i64 0, .string ⟨#[]⟩, .string ⟨#[]⟩, .string ⟨#[]⟩, .slice none 0 0, .slice none 0 0, .string ⟨#[]⟩, .slice (some ⟨w4.heap.size + 1 + 1 + 1, 0, none⟩) 3 3, .slice none 0 0, .int .i64 7, .int .i64 0, .bool false, .int .i64 0, .string ⟨#[]⟩, .string ⟨#[]⟩, .string ⟨#[]⟩, .slice none 0 0, .slice none 0 0, .string ⟨#[]⟩, .slice (some ⟨w4.heap.size + 1 + 1 + 1 + 1, 0, none⟩) 3 3, .slice none 0 0] 30 (0, 0)) from m4)
  have HXw := Lib.hid (HXy.out.trans hx5)
  have hrow : w5.heap[w4.heap.size + 1 + 1 + 1 + 1]? = some (.cells (([.int .i64 1, .int .i64 1, .bool false, .int .i64 0, .string ByteArray.empty, .string ByteArray.empty, .string ByteArray.empty, .slice none 0 0, .slice none 0 0, .string ByteArray.empty, .slice none 0 0, .slice none 0 0] : List Value) ++ (([.int .i64 eo, .int .i64 lk, .bool lb, .int .i64 ln, .string ls, .string lt, .string lu, .slice lA ll lc, .slice lB lm ld, .string en, .slice eK eks.length ec, .slice eN ens.length ed] : List Value) ++ (([.int .i64 1, .int .i64 1, .bool true, .int .i64 0, .string ByteArray.empty, .string ByteArray.empty, .string ByteArray.empty, .slice none 0 0, .slice none 0 0, .string ByteArray.empty, .slice none 0 0, .slice none 0 0] : List Value) ++ (([] : List Value))))).toArray 30 (0, 0)) := m3
  clear hW m0 m1 m2 m3 m4 hx5 hsz HXy HFy HBy HTy
  have hk : expR.RowsAt (fun b => b < w5.heap.size) w5 [.lit (.truth false), (Exp.mk eo ev en eks ens), .lit (.truth true)] (.slice (some ⟨w4.heap.size + 1 + 1 + 1 + 1, 0, none⟩) 3 3) := kids_at hrow (flat_cons (cs := [.int .i64 1, .int .i64 1, .bool false, .int .i64 0, .string ByteArray.empty, .string ByteArray.empty, .string ByteArray.empty, .slice none 0 0, .slice none 0 0, .string ByteArray.empty, .slice none 0 0, .slice none 0 0]) (lit_at (truth_at _ _ false)) (flat_cons (cs := [.int .i64 eo, .int .i64 lk, .bool lb, .int .i64 ln, .string ls, .string lt, .string lu, .slice lA ll lc, .slice lB lm ld, .string en, .slice eK eks.length ec, .slice eN ens.length ed]) (Exp.At.mono (fun b hb => Nat.lt_of_lt_of_le hb HXw.out.size) _ _ (Exp.At.alike (Alike.of_ext HXw.out fun _ h => h) _ _ HXe.out)) (flat_cons (cs := [.int .i64 1, .int .i64 1, .bool true, .int .i64 0, .string ByteArray.empty, .string ByteArray.empty, .string ByteArray.empty, .slice none 0 0, .slice none 0 0, .string ByteArray.empty, .slice none 0 0, .slice none 0 0]) (lit_at (truth_at _ _ true)) (flat_nil)))) (by rw [LIM_eq]; simp) rfl (by simp) (by rw [maxLen_eq]; omega)
  have hpos : 1 ≤ (Exp.mk eo ev en eks ens).dep := by rw [Exp.dep_def]; omega
  have hde : (Exp.of 7 [.lit (.truth false), (Exp.mk eo ev en eks ens), .lit (.truth true)]).dep = (Exp.mk eo ev en eks ens).dep + 1 := by
    rw [Exp.of_dep]
    simp only [Exp.deps, Exp.lit_dep]
    omega
  have hd := HDp.out
  have hl : (Exp.of 7 [.lit (.truth false), (Exp.mk eo ev en eks ens), .lit (.truth true)]).lits 1000000 := Exp.of_lits (by omega) (by
    intro y hy
    simp only [List.mem_cons, List.mem_nil_iff, or_false] at hy
    rcases hy with rfl | rfl | rfl <;> first | exact Exp.lit_lits (by decide) | exact Exp.lits_mono (by omega) _ HF.out.lits)
  have hin : InX w5 (.of 7 [.lit (.truth false), (Exp.mk eo ev en eks ens), .lit (.truth true)]) (opC 7 (.slice (some ⟨w4.heap.size + 1 + 1 + 1 + 1, 0, none⟩) 3 3)) := of_at (by unfold I64; omega) hk
  have h6 := HF.out.dep
  have hc := evalZ_ok (.of 7 [.lit (.truth false), (Exp.mk eo ev en eks ens), .lit (.truth true)]) (.truth true, 0) w5 (opC 7 (.slice (some ⟨w4.heap.size + 1 + 1 + 1 + 1, 0, none⟩) 3 3)) (by
    unfold Exp.eval
    rw [if_neg (by rw [hde]; omega), short_ev reqZ [] (Exp.mk eo ev en eks ens) 3 (by omega) _ rfl]; rfl) (by rw [hde]; omega) hl hin (HS.out.ext HXw.out)
  refine hc.mono ?_
  rintro e6 w6 ⟨cv, rfl, hv, hx6⟩
  obtain ⟨zA, zc, zB, zd, rfl⟩ := hv.opened
  have HC := Lib.hid (depthR_ok (SizeOf.sizeOf (Exp.of 7 [.lit (.truth false), (Exp.mk eo ev en eks ens), .lit (.truth true)])) (.of 7 [.lit (.truth false), (Exp.mk eo ev en eks ens), .lit (.truth true)]) (w6.alloc (.cells #[.int .i64 1, .bool true, .int .i64 0, .string ByteArray.empty, .string ByteArray.empty, .string ByteArray.empty, .slice zA 0 zc, .slice zB 0 zd] 27)) (opC 7 (.slice (some ⟨w4.heap.size + 1 + 1 + 1 + 1, 0, none⟩) 3 3)) (Nat.le_refl _) (by rw [hde]; omega) (hin.ext (hx6.alloc _)))
  obtain ⟨dp, hdp⟩ : ∃ d, (Exp.of 7 [.lit (.truth false), (Exp.mk eo ev en eks ens), .lit (.truth true)]).dep = d := ⟨_, rfl⟩
  rw [hdp] at HC hde
  have t0 : decide ((50 : Int) < (dp : Int)) = false := by simp; omega
  have HM6 := Lib.hid ((heap_alloc_old w6 (.cells #[.int .i64 1, .bool true, .int .i64 0, .string ByteArray.empty, .string ByteArray.empty, .string ByteArray.empty, .slice zA 0 zc, .slice zB 0 zd] 27) (Blk_lt ((hx6.block _ (Blk_lt HM.out)).trans HM.out))).trans ((hx6.block _ (Blk_lt HM.out)).trans HM.out))
  have HCm := Lib.hid (cells_mid (pre := [.int .i64 4, .int .i64 0, .bool false, .int .i64 0, .string ⟨#[]⟩, .string ⟨#[]⟩, .string ⟨#[]⟩, .slice none 0 0, .slice none 0 0, .string ⟨#[]⟩, .slice (some ⟨w4.heap.size + 1, 0, none⟩) 2 2, .slice none 0 0, .int .i64 5, .int .i64 0, .bool false, .int .i64 0, .string ⟨#[]⟩, .string ⟨#[]⟩, .string ⟨#[]⟩, .slice none 0 0, .slice none 0 0, .string ⟨#[]⟩, .slice (some ⟨w4.heap.size + 1 + 1, 0, none⟩) 2 2, .slice none 0 0, .int .i64 7, .int .i64 0, .bool false, .int .i64 0, .string ⟨#[]⟩, .string ⟨#[]⟩, .string ⟨#[]⟩, .slice none 0 0, .slice none 0 0, .string ⟨#[]⟩, .slice (some ⟨w4.heap.size + 1 + 1 + 1, 0, none⟩) 3 3, .slice none 0 0]) (cs := [.int .i64 7, .int .i64 0, .bool false, .int .i64 0, .string ⟨#[]⟩, .string ⟨#[]⟩, .string ⟨#[]⟩, .slice none 0 0, .slice none 0 0, .string ⟨#[]⟩, .slice (some ⟨w4.heap.size + 1 + 1 + 1 + 1, 0, none⟩) 3 3, .slice none 0 0]) (r := []) HM6.out)
  have HV6 := Lib.hid (heap_alloc_new w6 (.cells #[.int .i64 1, .bool true, .int .i64 0, .string ByteArray.empty, .string ByteArray.empty, .string ByteArray.empty, .slice zA 0 zc, .slice zB 0 zd] 27))
  have HX6 := Lib.hid ((HXw.out.trans hx6).alloc (.cells #[.int .i64 1, .bool true, .int .i64 0, .string ByteArray.empty, .string ByteArray.empty, .string ByteArray.empty, .slice zA 0 zc, .slice zB 0 zd] 27))
  clear hc hv hx6 hin hl hd h6 hk hpos hde hdp hrow HM HXw
  go_wp2_with (first | refine wpList_load_cells rfl 30 _ rfl (w4.heap.size + 1 + 1 + 1 + 1 + 1) 36 rfl Tryz.aggEx Tryz.sizeEx (cs := [.int .i64 7, .int .i64 0, .bool false, .int .i64 0, .string ⟨#[]⟩, .string ⟨#[]⟩, .string ⟨#[]⟩, .slice none 0 0, .slice none 0 0, .string ⟨#[]⟩, .slice (some ⟨w4.heap.size + 1 + 1 + 1 + 1, 0, none⟩) 3 3, .slice none 0 0]) rfl HCm.out ?_)
  refine HC.out.mono ?_
  rintro e7 w7 ⟨rfl, hx7⟩
  have HV7 := Lib.hid ((hx7.block _ (Blk_lt HV6.out)).trans HV6.out)
  have HX7 := Lib.hid (HX6.out.trans hx7)
  have f0 : w7.cell? ⟨w6.heap.size, 0, none⟩ = some (.int .i64 1) := cell_of_row _ _ 0 _ _ _ HV7.out
  have f1 : w7.cell? ⟨w6.heap.size, 1, none⟩ = some (.bool true) := cell_of_row _ _ 1 _ _ _ HV7.out
  clear hx7 HC HM6 HCm HV6 HX6 HV7
  go_wp2_with fail
  go_ret
  exact ⟨rfl, HX7.out⟩
set_option maxRecDepth 100000 in
set_option maxHeartbeats 4000000 in
theorem evalShort_3d (x : Exp) (k : Int) (hk : k % 4 = 3) (hdp : 50 < x.dep + 1) (W : World) (cs : List Value) (hx : InX W x cs) (hs : Sums W) :
    Calls Tryz.prog 3 #[.agg cs.toArray, .int .i64 k] W fun e W' => e = .returned (.bool true) ∧ Ext W W' := by
  have HXe := Lib.hid hx
  have HS := Lib.hid hs
  have hb : bits .and .i64 k 3 = 3 := by rw [i64_and3]; exact hk
  have HDp := Lib.hid hdp
  obtain ⟨eo, ev, en, eks, ens⟩ := x
  obtain ⟨lk, lb, ln, ls, lt, lu, lA, ll, lc, lB, lm, ld, eK, ec, eN, ed, hcs, _⟩ := Exp.At.shape hx
  obtain rfl : cs = [.int .i64 eo, .int .i64 lk, .bool lb, .int .i64 ln, .string ls, .string lt, .string lu, .slice lA ll lc, .slice lB lm ld, .string en, .slice eK eks.length ec, .slice eN ens.length ed] := hcs
  have HX0 := Lib.hid ((Ext.refl W).alloc (.cells #[.int .i64 eo, .int .i64 lk, .bool lb, .int .i64 ln, .string ls, .string lt, .string lu, .slice lA ll lc, .slice lB lm ld, .string en, .slice eK eks.length ec, .slice eN ens.length ed] 30))
  have HB0 := Lib.hid (heap_alloc_new W (.cells #[.int .i64 eo, .int .i64 lk, .bool lb, .int .i64 ln, .string ls, .string lt, .string lu, .slice lA ll lc, .slice lB lm ld, .string en, .slice eK eks.length ec, .slice eN ens.length ed] 30))
  clear hx hs hk hdp
  go_enter Tryz.func3, Tryz.ntmps3
  go_wp2_with fail
  refine (awake14_ok _ (HS.out.ext HX0.out)).mono ?_
  rintro e1 w1 ⟨rfl, hx⟩
  have HX1 := Lib.hid (HX0.out.trans hx)
  have HB1 := Lib.hid ((hx.block _ (Blk_lt HB0.out)).trans HB0.out)
  clear hx HX0 HB0
  go_wp2_with ((with_reducible refine at_load ?_; refine wpList_load_cells rfl 30 _ rfl W.heap.size 0 rfl Tryz.aggEx Tryz.sizeEx (cs := [.int .i64 eo, .int .i64 lk, .bool lb, .int .i64 ln, .string ls, .string lt, .string lu, .slice lA ll lc, .slice lB lm ld, .string en, .slice eK eks.length ec, .slice eN ens.length ed]) rfl (cells_of_row HB1.out) ?_))
  refine (fit14_ok (Exp.mk eo ev en eks ens) reqZ [] _ [.int .i64 eo, .int .i64 lk, .bool lb, .int .i64 ln, .string ls, .string lt, .string lu, .slice lA ll lc, .slice lB lm ld, .string en, .slice eK eks.length ec, .slice eN ens.length ed] reqC (.slice none 0 0) (HXe.out.ext HX1.out) (reqZ_at _ _) (Rep.RowsAt.nil _ _)).mono ?_
  rintro e2 w2 ⟨r, hr, rfl, hx⟩
  have HX2 := Lib.hid (HX1.out.trans hx)
  have HB2 := Lib.hid ((hx.block _ (Blk_lt HB1.out)).trans HB1.out)
  have HR := Lib.hid hr
  clear hx HX1 HB1 hr
  cases r with
  | false =>
    go_wp2_with fail
    go_ret
    exact ⟨rfl, HX2.out⟩
  | true =>
  have HF := Lib.hid (HR.out rfl)
  clear HR
  go_wp2_with fail
  refine ((lit_ok 1 false 0 ByteArray.empty ByteArray.empty ByteArray.empty none 0 0 none 0 0 _)).mono ?_
  rintro e3 w3 ⟨rfl, hx3⟩
  have HX3 := Lib.hid (HX2.out.trans hx3)
  have HB3 := Lib.hid ((hx3.block _ (Blk_lt HB2.out)).trans HB2.out)
  clear hx3 HX2 HB2
  go_wp2_with fail
  refine ((lit_ok 1 true 0 ByteArray.empty ByteArray.empty ByteArray.empty none 0 0 none 0 0 _)).mono ?_
  rintro e4 w4 ⟨rfl, hx4⟩
  have HF4 := Lib.hid ((hx4.block _ (by simp)).trans (heap_alloc_new w3 (.cells #[.int .i64 1, .int .i64 1, .bool false, .int .i64 0, .string ByteArray.empty, .string ByteArray.empty, .string ByteArray.empty, .slice none 0 0, .slice none 0 0, .string ByteArray.empty, .slice none 0 0, .slice none 0 0] 30)))
  have HB4 := Lib.hid ((((Ext.refl w3).alloc (.cells #[.int .i64 1, .int .i64 1, .bool false, .int .i64 0, .string ByteArray.empty, .string ByteArray.empty, .string ByteArray.empty, .slice none 0 0, .slice none 0 0, .string ByteArray.empty, .slice none 0 0, .slice none 0 0] 30)).trans hx4).block _ (Blk_lt HB3.out) |>.trans HB3.out)
  have HX4 := Lib.hid (HX3.out.trans (((Ext.refl w3).alloc (.cells #[.int .i64 1, .int .i64 1, .bool false, .int .i64 0, .string ByteArray.empty, .string ByteArray.empty, .string ByteArray.empty, .slice none 0 0, .slice none 0 0, .string ByteArray.empty, .slice none 0 0, .slice none 0 0] 30)).trans hx4))
  clear hx4 HX3 HB3
  have HFy := Lib.hid ((heap_alloc_old w4 (.cells #[.int .i64 1, .int .i64 1, .bool true, .int .i64 0, .string ByteArray.empty, .string ByteArray.empty, .string ByteArray.empty, .slice none 0 0, .slice none 0 0, .string ByteArray.empty, .slice none 0 0, .slice none 0 0] 30) (Blk_lt HF4.out)).trans HF4.out)
  have HBy := Lib.hid ((heap_alloc_old w4 (.cells #[.int .i64 1, .int .i64 1, .bool true, .int .i64 0, .string ByteArray.empty, .string ByteArray.empty, .string ByteArray.empty, .slice none 0 0, .slice none 0 0, .string ByteArray.empty, .slice none 0 0, .slice none 0 0] 30) (Blk_lt HB4.out)).trans HB4.out)
  have HTy := Lib.hid (heap_alloc_new w4 (.cells #[.int .i64 1, .int .i64 1, .bool true, .int .i64 0, .string ByteArray.empty, .string ByteArray.empty, .string ByteArray.empty, .slice none 0 0, .slice none 0 0, .string ByteArray.empty, .slice none 0 0, .slice none 0 0] 30))
  have HXy := Lib.hid (HX4.out.alloc (.cells #[.int .i64 1, .int .i64 1, .bool true, .int .i64 0, .string ByteArray.empty, .string ByteArray.empty, .string ByteArray.empty, .slice none 0 0, .slice none 0 0, .string ByteArray.empty, .slice none 0 0, .slice none 0 0] 30))
  clear HF4 HB4 HX4
  go_wp2_with (first | (with_reducible refine at_load ?_; refine wpList_load_cells rfl 30 _ rfl w3.heap.size 0 rfl Tryz.aggEx Tryz.sizeEx (cs := [.int .i64 1, .int .i64 1, .bool false, .int .i64 0, .string ByteArray.empty, .string ByteArray.empty, .string ByteArray.empty, .slice none 0 0, .slice none 0 0, .string ByteArray.empty, .slice none 0 0, .slice none 0 0]) rfl (cells_of_row (by with_reducible first | exact HFy.out | exact keep_alloc (HFy.out) | exact keep_alloc (keep_alloc (HFy.out)) | exact keep_alloc (keep_alloc (keep_alloc (HFy.out))) | exact keep_alloc (keep_alloc (keep_alloc (keep_alloc (HFy.out)))))) ?_) | (with_reducible refine at_load ?_; refine wpList_load_cells rfl 30 _ rfl W.heap.size 0 rfl Tryz.aggEx Tryz.sizeEx (cs := [.int .i64 eo, .int .i64 lk, .bool lb, .int .i64 ln, .string ls, .string lt, .string lu, .slice lA ll lc, .slice lB lm ld, .string en, .slice eK eks.length ec, .slice eN ens.length ed]) rfl (cells_of_row (by with_reducible first | exact HBy.out | exact keep_alloc (HBy.out) | exact keep_alloc (keep_alloc (HBy.out)) | exact keep_alloc (keep_alloc (keep_alloc (HBy.out))) | exact keep_alloc (keep_alloc (keep_alloc (keep_alloc (HBy.out)))))) ?_) | (with_reducible refine at_load ?_; refine wpList_load_cells rfl 30 _ rfl w4.heap.size 0 rfl Tryz.aggEx Tryz.sizeEx (cs := [.int .i64 1, .int .i64 1, .bool true, .int .i64 0, .string ByteArray.empty, .string ByteArray.empty, .string ByteArray.empty, .slice none 0 0, .slice none 0 0, .string ByteArray.empty, .slice none 0 0, .slice none 0 0]) rfl (cells_of_row (by with_reducible first | exact HTy.out | exact keep_alloc (HTy.out) | exact keep_alloc (keep_alloc (HTy.out)) | exact keep_alloc (keep_alloc (keep_alloc (HTy.out))) | exact keep_alloc (keep_alloc (keep_alloc (keep_alloc (HTy.out)))))) ?_))
  obtain ⟨w5, hW, m0, m1, m2, m3, m4, hx5⟩ := heapA5 (w4.alloc (.cells #[.int .i64 1, .int .i64 1, .bool true, .int .i64 0, .string ByteArray.empty, .string ByteArray.empty, .string ByteArray.empty, .slice none 0 0, .slice none 0 0, .string ByteArray.empty, .slice none 0 0, .slice none 0 0] 30)) (.cells #[.int .i64 1, .int .i64 1, .bool false, .int .i64 0, .string ByteArray.empty, .string ByteArray.empty, .string ByteArray.empty, .slice none 0 0, .slice none 0 0, .string ByteArray.empty, .slice none 0 0, .slice none 0 0, .int .i64 eo, .int .i64 lk, .bool lb, .int .i64 ln, .string ls, .string lt, .string lu, .slice lA ll lc, .slice lB lm ld, .string en, .slice eK eks.length ec, .slice eN ens.length ed] 30) (.cells #[.int .i64 1, .int .i64 1, .bool true, .int .i64 0, .string ByteArray.empty, .string ByteArray.empty, .string ByteArray.empty, .slice none 0 0, .slice none 0 0, .string ByteArray.empty, .slice none 0 0, .slice none 0 0, .int .i64 eo, .int .i64 lk, .bool lb, .int .i64 ln, .string ls, .string lt, .string lu, .slice lA ll lc, .slice lB lm ld, .string en, .slice eK eks.length ec, .slice eN ens.length ed] 30) (.cells #[.int .i64 1, .int .i64 1, .bool true, .int .i64 0, .string ByteArray.empty, .string ByteArray.empty, .string ByteArray.empty, .slice none 0 0, .slice none 0 0, .string ByteArray.empty, .slice none 0 0, .slice none 0 0, .int .i64 1, .int .i64 1, .bool true, .int .i64 0, .string ByteArray.empty, .string ByteArray.empty, .string ByteArray.empty, .slice none 0 0, .slice none 0 0, .string ByteArray.empty, .slice none 0 0, .slice none 0 0, .int .i64 eo, .int .i64 lk, .bool lb, .int .i64 ln, .string ls, .string lt, .string lu, .slice lA ll lc, .slice lB lm ld, .string en, .slice eK eks.length ec, .slice eN ens.length ed] 30) (.cells #[.int .i64 1, .int .i64 1, .bool false, .int .i64 0, .string ByteArray.empty, .string ByteArray.empty, .string ByteArray.empty, .slice none 0 0, .slice none 0 0, .string ByteArray.empty, .slice none 0 0, .slice none 0 0, .int .i64 eo, .int .i64 lk, .bool lb, .int .i64 ln, .string ls, .string lt, .string lu, .slice lA ll lc, .slice lB lm ld, .string en, .slice eK eks.length ec, .slice eN ens.length ed, .int .i64 1, .int .i64 1, .bool true, .int .i64 0, .string ByteArray.empty, .string ByteArray.empty, .string ByteArray.empty, .slice none 0 0, .slice none 0 0, .string ByteArray.empty, .slice none 0 0, .slice none 0 0] 30) (.cells #[.int .i64 4, .int .i64 0, .bool false, .int .i64 0, .string ⟨#[]⟩, .string ⟨#[]⟩, .string ⟨#[]⟩, .slice none 0 0, .slice none 0 0, .string ⟨#[]⟩, .slice (some ⟨w4.heap.size + 1, 0, none⟩) 2 2, .slice none 0 0, .int .i64 5, .int .i64 0, .bool false, .int .i64 0, .string ⟨#[]⟩, .string ⟨#[]⟩, .string ⟨#[]⟩, .slice none 0 0, .slice none 0 0, .string ⟨#[]⟩, .slice (some ⟨w4.heap.size + 1 + 1, 0, none⟩) 2 2, .slice none 0 0, .int .i64 7, .int .i64 0, .bool false, .int .i64 0, .string ⟨#[]⟩, .string ⟨#[]⟩, .string ⟨#[]⟩, .slice none 0 0, .slice none 0 0, .string ⟨#[]⟩, .slice (some ⟨w4.heap.size + 1 + 1 + 1, 0, none⟩) 3 3, .slice none 0 0, .int .i64 7, .int .i64 0, .bool false, .int .i64 0, .string ⟨#[]⟩, .string ⟨#[]⟩, .string ⟨#[]⟩, .slice none 0 0, .slice none 0 0, .string ⟨#[]⟩, .slice (some ⟨w4.heap.size + 1 + 1 + 1 + 1, 0, none⟩) 3 3, .slice none 0 0] 30)
  rw [← hW]
  have hsz : (w4.alloc (.cells #[.int .i64 1, .int .i64 1, .bool true, .int .i64 0, .string ByteArray.empty, .string ByteArray.empty, .string ByteArray.empty, .slice none 0 0, .slice none 0 0, .string ByteArray.empty, .slice none 0 0, .slice none 0 0] 30)).heap.size = w4.heap.size + 1 := by simp
  rw [hsz] at m0 m1 m2 m3 m4
  have HM := Lib.hid (show w5.heap[w4.heap.size + 1 + 1 + 1 + 1 + 1]? = some (.cells #[.int .i64 4, .int .i64 0, .bool false, .int .i64 0, .string ⟨#[]⟩, .string ⟨#[]⟩, .string ⟨#[]⟩, .slice none 0 0, .slice none 0 0, .string ⟨#[]⟩, .slice (some ⟨w4.heap.size + 1, 0, none⟩) 2 2, .slice none 0 0, .int .i64 5, .int .i64 0, .bool false, .int .i64 0, .string ⟨#[]⟩, .string ⟨#[]⟩, .string ⟨#[]⟩, .slice none 0 0, .slice none 0 0, .string ⟨#[]⟩, .slice (some ⟨w4.heap.size + 1 + 1, 0, none⟩) 2 2, .slice none 0 0, .int .i64 7, .int .i64 0, .bool false, .int .i64 0, .string ⟨#[]⟩, .string ⟨#[]⟩, .string ⟨#[]⟩, .slice none 0 0, .slice none 0 0, .string ⟨#[]⟩, .slice (some ⟨w4.heap.size + 1 + 1 + 1, 0, none⟩) 3 3, .slice none 0 0, .int .i64 7, .int .i64 0, .bool false, .int .i64 0, .string ⟨#[]⟩, .string ⟨#[]⟩, .string ⟨#[]⟩, .slice none 0 0, .slice none 0 0, .string ⟨#[]⟩, .slice (some ⟨w4.heap.size + 1 + 1 + 1 + 1, 0, none⟩) 3 3, .slice none 0 0] 30 (0, 0)) from m4)
  have HXw := Lib.hid (HXy.out.trans hx5)
  have hrow : w5.heap[w4.heap.size + 1 + 1 + 1 + 1]? = some (.cells (([.int .i64 1, .int .i64 1, .bool false, .int .i64 0, .string ByteArray.empty, .string ByteArray.empty, .string ByteArray.empty, .slice none 0 0, .slice none 0 0, .string ByteArray.empty, .slice none 0 0, .slice none 0 0] : List Value) ++ (([.int .i64 eo, .int .i64 lk, .bool lb, .int .i64 ln, .string ls, .string lt, .string lu, .slice lA ll lc, .slice lB lm ld, .string en, .slice eK eks.length ec, .slice eN ens.length ed] : List Value) ++ (([.int .i64 1, .int .i64 1, .bool true, .int .i64 0, .string ByteArray.empty, .string ByteArray.empty, .string ByteArray.empty, .slice none 0 0, .slice none 0 0, .string ByteArray.empty, .slice none 0 0, .slice none 0 0] : List Value) ++ (([] : List Value))))).toArray 30 (0, 0)) := m3
  clear hW m0 m1 m2 m3 m4 hx5 hsz HXy HFy HBy HTy
  have hk : expR.RowsAt (fun b => b < w5.heap.size) w5 [.lit (.truth false), (Exp.mk eo ev en eks ens), .lit (.truth true)] (.slice (some ⟨w4.heap.size + 1 + 1 + 1 + 1, 0, none⟩) 3 3) := kids_at hrow (flat_cons (cs := [.int .i64 1, .int .i64 1, .bool false, .int .i64 0, .string ByteArray.empty, .string ByteArray.empty, .string ByteArray.empty, .slice none 0 0, .slice none 0 0, .string ByteArray.empty, .slice none 0 0, .slice none 0 0]) (lit_at (truth_at _ _ false)) (flat_cons (cs := [.int .i64 eo, .int .i64 lk, .bool lb, .int .i64 ln, .string ls, .string lt, .string lu, .slice lA ll lc, .slice lB lm ld, .string en, .slice eK eks.length ec, .slice eN ens.length ed]) (Exp.At.mono (fun b hb => Nat.lt_of_lt_of_le hb HXw.out.size) _ _ (Exp.At.alike (Alike.of_ext HXw.out fun _ h => h) _ _ HXe.out)) (flat_cons (cs := [.int .i64 1, .int .i64 1, .bool true, .int .i64 0, .string ByteArray.empty, .string ByteArray.empty, .string ByteArray.empty, .slice none 0 0, .slice none 0 0, .string ByteArray.empty, .slice none 0 0, .slice none 0 0]) (lit_at (truth_at _ _ true)) (flat_nil)))) (by rw [LIM_eq]; simp) rfl (by simp) (by rw [maxLen_eq]; omega)
  have hpos : 1 ≤ (Exp.mk eo ev en eks ens).dep := by rw [Exp.dep_def]; omega
  have hde : (Exp.of 7 [.lit (.truth false), (Exp.mk eo ev en eks ens), .lit (.truth true)]).dep = (Exp.mk eo ev en eks ens).dep + 1 := by
    rw [Exp.of_dep]
    simp only [Exp.deps, Exp.lit_dep]
    omega
  have hd := HDp.out
  have hl : (Exp.of 7 [.lit (.truth false), (Exp.mk eo ev en eks ens), .lit (.truth true)]).lits 1000000 := Exp.of_lits (by omega) (by
    intro y hy
    simp only [List.mem_cons, List.mem_nil_iff, or_false] at hy
    rcases hy with rfl | rfl | rfl <;> first | exact Exp.lit_lits (by decide) | exact Exp.lits_mono (by omega) _ HF.out.lits)
  have hin : InX w5 (.of 7 [.lit (.truth false), (Exp.mk eo ev en eks ens), .lit (.truth true)]) (opC 7 (.slice (some ⟨w4.heap.size + 1 + 1 + 1 + 1, 0, none⟩) 3 3)) := of_at (by unfold I64; omega) hk
  have h6 := HF.out.dep
  have hc := evalZ_ok (.of 7 [.lit (.truth false), (Exp.mk eo ev en eks ens), .lit (.truth true)]) (.zero, 11) w5 (opC 7 (.slice (some ⟨w4.heap.size + 1 + 1 + 1 + 1, 0, none⟩) 3 3)) (by
    unfold Exp.eval
    rw [if_pos (by rw [hde]; omega)]; rfl) (by rw [hde]; omega) hl hin (HS.out.ext HXw.out)
  refine hc.mono ?_
  rintro e6 w6 ⟨cv, rfl, hv, hx6⟩
  obtain ⟨zA, zc, zB, zd, rfl⟩ := hv.opened
  have HC := Lib.hid (depthR_ok (SizeOf.sizeOf (Exp.of 7 [.lit (.truth false), (Exp.mk eo ev en eks ens), .lit (.truth true)])) (.of 7 [.lit (.truth false), (Exp.mk eo ev en eks ens), .lit (.truth true)]) (w6.alloc (.cells #[.int .i64 0, .bool false, .int .i64 0, .string ByteArray.empty, .string ByteArray.empty, .string ByteArray.empty, .slice zA 0 zc, .slice zB 0 zd] 27)) (opC 7 (.slice (some ⟨w4.heap.size + 1 + 1 + 1 + 1, 0, none⟩) 3 3)) (Nat.le_refl _) (by rw [hde]; omega) (hin.ext (hx6.alloc _)))
  obtain ⟨dp, hdp⟩ : ∃ d, (Exp.of 7 [.lit (.truth false), (Exp.mk eo ev en eks ens), .lit (.truth true)]).dep = d := ⟨_, rfl⟩
  rw [hdp] at HC hde
  have t0 : decide ((50 : Int) < (dp : Int)) = true := by simp; omega
  have HM6 := Lib.hid ((heap_alloc_old w6 (.cells #[.int .i64 0, .bool false, .int .i64 0, .string ByteArray.empty, .string ByteArray.empty, .string ByteArray.empty, .slice zA 0 zc, .slice zB 0 zd] 27) (Blk_lt ((hx6.block _ (Blk_lt HM.out)).trans HM.out))).trans ((hx6.block _ (Blk_lt HM.out)).trans HM.out))
  have HCm := Lib.hid (cells_mid (pre := [.int .i64 4, .int .i64 0, .bool false, .int .i64 0, .string ⟨#[]⟩, .string ⟨#[]⟩, .string ⟨#[]⟩, .slice none 0 0, .slice none 0 0, .string ⟨#[]⟩, .slice (some ⟨w4.heap.size + 1, 0, none⟩) 2 2, .slice none 0 0, .int .i64 5, .int .i64 0, .bool false, .int .i64 0, .string ⟨#[]⟩, .string ⟨#[]⟩, .string ⟨#[]⟩, .slice none 0 0, .slice none 0 0, .string ⟨#[]⟩, .slice (some ⟨w4.heap.size + 1 + 1, 0, none⟩) 2 2, .slice none 0 0, .int .i64 7, .int .i64 0, .bool false, .int .i64 0, .string ⟨#[]⟩, .string ⟨#[]⟩, .string ⟨#[]⟩, .slice none 0 0, .slice none 0 0, .string ⟨#[]⟩, .slice (some ⟨w4.heap.size + 1 + 1 + 1, 0, none⟩) 3 3, .slice none 0 0]) (cs := [.int .i64 7, .int .i64 0, .bool false, .int .i64 0, .string ⟨#[]⟩, .string ⟨#[]⟩, .string ⟨#[]⟩, .slice none 0 0, .slice none 0 0, .string ⟨#[]⟩, .slice (some ⟨w4.heap.size + 1 + 1 + 1 + 1, 0, none⟩) 3 3, .slice none 0 0]) (r := []) HM6.out)
  have HV6 := Lib.hid (heap_alloc_new w6 (.cells #[.int .i64 0, .bool false, .int .i64 0, .string ByteArray.empty, .string ByteArray.empty, .string ByteArray.empty, .slice zA 0 zc, .slice zB 0 zd] 27))
  have HX6 := Lib.hid ((HXw.out.trans hx6).alloc (.cells #[.int .i64 0, .bool false, .int .i64 0, .string ByteArray.empty, .string ByteArray.empty, .string ByteArray.empty, .slice zA 0 zc, .slice zB 0 zd] 27))
  clear hc hv hx6 hin hl hd h6 hk hpos hde hdp hrow HM HXw
  go_wp2_with (first | refine wpList_load_cells rfl 30 _ rfl (w4.heap.size + 1 + 1 + 1 + 1 + 1) 36 rfl Tryz.aggEx Tryz.sizeEx (cs := [.int .i64 7, .int .i64 0, .bool false, .int .i64 0, .string ⟨#[]⟩, .string ⟨#[]⟩, .string ⟨#[]⟩, .slice none 0 0, .slice none 0 0, .string ⟨#[]⟩, .slice (some ⟨w4.heap.size + 1 + 1 + 1 + 1, 0, none⟩) 3 3, .slice none 0 0]) rfl HCm.out ?_)
  refine HC.out.mono ?_
  rintro e7 w7 ⟨rfl, hx7⟩
  have HV7 := Lib.hid ((hx7.block _ (Blk_lt HV6.out)).trans HV6.out)
  have HX7 := Lib.hid (HX6.out.trans hx7)
  have f0 : w7.cell? ⟨w6.heap.size, 0, none⟩ = some (.int .i64 0) := cell_of_row _ _ 0 _ _ _ HV7.out
  have f1 : w7.cell? ⟨w6.heap.size, 1, none⟩ = some (.bool false) := cell_of_row _ _ 1 _ _ _ HV7.out
  clear hx7 HC HM6 HCm HV6 HX6 HV7
  go_wp2_with fail
  go_ret
  exact ⟨rfl, HX7.out⟩
theorem evalShort_walk (x : Exp) (k : Int) (W : World) (cs : List Value) (hx : InX W x cs) (hs : Sums W) :
    Calls Tryz.prog 3 #[.agg cs.toArray, .int .i64 k] W fun e W' => e = .returned (.bool true) ∧ Ext W W' := by
  rcases (by omega : k % 4 = 0 ∨ k % 4 = 1 ∨ k % 4 = 2 ∨ k % 4 = 3) with h | h | h | h <;> by_cases hd : 50 < x.dep + 1
  · exact evalShort_0d x k h hd W cs hx hs
  · exact evalShort_0s x k h (by omega) W cs hx hs
  · exact evalShort_1d x k h hd W cs hx hs
  · exact evalShort_1s x k h (by omega) W cs hx hs
  · exact evalShort_2d x k h hd W cs hx hs
  · exact evalShort_2s x k h (by omega) W cs hx hs
  · exact evalShort_3d x k h hd W cs hx hs
  · exact evalShort_3s x k h (by omega) W cs hx hs
end Go.Proofs.YtebfoimbdljbmaaGreatDoor
