/-
  Reading a value: what the program's reader gives. The conditions: the bytes are at most 65536, and lie in memory that nothing writes.
-/
import Derived.Test.YtpkgkabcikmopaaRdg
namespace Go.Proofs.Ytpkgkabcikmopaa
open Go.RowKit

theorem Try.sizeB4 : ∀ w, (Go.sizeOf 4).run Try.prog w = .ok 1 w := fun _ => by kernel_rfl
theorem Try.sizeI2 : ∀ w, (Go.sizeOf 2).run Try.prog w = .ok 1 w := fun _ => by kernel_rfl
theorem Try.sizeI3 : ∀ w, (Go.sizeOf 3).run Try.prog w = .ok 1 w := fun _ => by kernel_rfl
theorem Try.sizeS9 : ∀ w, (Go.sizeOf 9).run Try.prog w = .ok 1 w := fun _ => by kernel_rfl

/-- what reading a value is to leave, nested so deep that m levels more are allowed -/
def ValueOk (m : Nat) : Prop := ∀ (deep : Nat), deep + m = 51 → ∀ (lim g : Nat) (w : World) (bs : List UInt8) (bad : Bool), RdAt lim w g bs bad → bs.length ≤ 65536 → g < w.heap.size →
  Calls Try.prog 60 #[.pointer (some ⟨g, 0, none⟩), .int .i64 deep] w fun e w' => GrownBy w w' (some g) ∧ ∃ (v : Val) (cs : List Value) (bs' : List UInt8) (bad' : Bool), e = .returned (.agg cs.toArray) ∧ Val.At (fun b => w.heap.size ≤ b ∧ b < w'.heap.size) w' v cs ∧ RdAt lim w' g bs' bad' ∧ Reads bs bad m v bs' bad'

theorem list8' {α : Type} {l : List α} (h : l.length = 8) : ∃ a0 a1 a2 a3 a4 a5 a6 a7, l = [a0, a1, a2, a3, a4, a5, a6, a7] := by
  match l, h with
  | [_, _, _, _, _, _, _, _], _ => exact ⟨_, _, _, _, _, _, _, _, rfl⟩
theorem list6 {α : Type} {l : List α} (h : l.length = 6) : ∃ a0 a1 a2 a3 a4 a5, l = [a0, a1, a2, a3, a4, a5] := by
  match l, h with
  | [_, _, _, _, _, _], _ => exact ⟨_, _, _, _, _, _, rfl⟩
theorem i64_wrap_in (n : Int) : I64 (wrap64 n) := by
  unfold I64 wrap64
  omega
theorem rdAt_heap {lim g : Nat} {w : World} {bs : List UInt8} {bad : Bool} (h : RdAt lim w g bs bad) : ∃ A c, w.heap[g]? = some (.cells #[.slice A bs.length c, .bool bad] 80 (0, 0)) := by
  obtain ⟨A, c, h, _⟩ := h
  exact ⟨A, c, h⟩
/-- the reader, turned bad -/
theorem RdAt.bad {lim g : Nat} {w w' : World} {bs : List UInt8} {bad : Bool} {A : Option Addr} {c : Nat} (h : RdAt lim w g bs bad) (hh : w.heap[g]? = some (.cells #[.slice A bs.length c, .bool bad] 80 (0, 0))) (hh' : w'.heap[g]? = some (.cells (#[Value.slice A bs.length c, .bool bad].setIfInBounds 1 (.bool true)) 80 (0, 0))) (hg : GrownBy w w' (some g)) : RdAt lim w' g bs true := by
  obtain ⟨A', c', h1, h2, h3, h4, h5⟩ := h
  rw [h1] at hh
  injection hh with hh
  injection hh with hh
  simp at hh
  obtain ⟨rfl, rfl⟩ := hh
  exact ⟨A', c', hh', h2, h3, Nat.le_trans h4 hg.size, h5.grown h4 hg⟩

set_option maxRecDepth 100000 in
set_option maxHeartbeats 3200000 in
theorem value_step (m : Nat) (ih : ∀ m', m = m' + 1 → ValueOk m') : ValueOk m := by
  have IH := Lib.hid ih
  clear ih
  intro deep hdm lim g w bs bad h hl hgl
  have H := Lib.hid h
  clear h
  go_enter Try.func60, Try.ntmps60
  go_wp2_with fail
  refine (numberN_ok lim g 1 _ bs bad (H.out.ext ((Ext.refl w).alloc _)) (by omega)).mono ?_
  rintro e w1 ⟨hg1, kd, bs1, bad1, rfl, hrd1, hN1⟩
  have hR1 : w1.heap[w.heap.size]? = some (.cells zeroCells.toArray 27 (0, 0)) := (hg1.block w.heap.size (by simp) (fun e => by injection e with e; omega)).trans (heap_alloc_new w _)
  have hgw1 : GrownBy w w1 (some g) := (GrownBy.of_ext _ ((Ext.refl w).alloc _)).trans hg1
  have hkd : kd < 256 := by simpa using hN1.2.2.2.1
  have hl1 : bs1.length ≤ 65536 := Nat.le_trans hN1.2.1 hl
  obtain ⟨A1, c1, hh1⟩ := rdAt_heap hrd1
  have hg1' : g < w1.heap.size := hrd1.lt
  have hs1 : w.heap.size < w1.heap.size := Blk_lt hR1
  have HN1 := Lib.hid hN1
  have HR1 := Lib.hid hR1
  have HGw1 := Lib.hid hgw1
  have HRd1 := Lib.hid hrd1
  have HH1 := Lib.hid hh1
  clear hg1 hrd1 hN1 hR1 hgw1 hh1
  by_cases hdeep : 50 < deep
  · have t0 : decide ((50 : Int) < deep) = true := by simp; omega
    have hm0 : m = 0 := by omega
    subst hm0
    clear hdeep
    go_wp2_with (refine wpList_store_one rfl 4 (.tmp 15) _ rfl g 1 rfl (.bool true) rfl rfl rfl Try.sizeB4 80 _ ((Below.heap_alloc w1 _ g hg1').trans HH1.out) (by simp) ?_)
    intro w2 hh2 hg2
    have hrd2 := RdAt.bad (HRd1.out.ext ((Ext.refl w1).alloc _)) ((Below.heap_alloc w1 _ g hg1').trans HH1.out) hh2 hg2
    have HRd2 := Lib.hid hrd2
    have hO2 : w2.heap[w1.heap.size]? = some (.cells [.int .i64 kd, .bool false, .int .i64 0, .string ByteArray.empty, .string ByteArray.empty, .string ByteArray.empty, .slice none 0 0, .slice none 0 0].toArray 27 (0, 0)) := (hg2.block w1.heap.size (by simp) (fun e => by injection e with e; omega)).trans (heap_alloc_new w1 _)
    have HO : Hid (CellsAt w2 w1.heap.size 0 [.int .i64 kd, .bool false, .int .i64 0, .string ByteArray.empty, .string ByteArray.empty, .string ByteArray.empty, .slice none 0 0, .slice none 0 0]) := Lib.hid fun j v hj => by rw [cell_of_row _ _ _ _ _ _ hO2, Nat.zero_add]; simpa using hj
    have hgw2 := HGw1.out.trans ((GrownBy.of_ext _ ((Ext.refl w1).alloc _)).trans hg2)
    have HGw2 := Lib.hid hgw2
    have HR2 : Hid (w2.heap[w.heap.size]? = some (.cells zeroCells.toArray 27 (0, 0))) := Lib.hid ((hg2.block w.heap.size (by simp; omega) (fun e => by injection e with e; omega)).trans ((Below.heap_alloc w1 _ _ hs1).trans HR1.out))
    have HAt : Hid (∀ W, Val.At (fun b => w.heap.size ≤ b ∧ b < W.heap.size) W (.mk kd false 0 empty empty empty [] []) [.int .i64 kd, .bool false, .int .i64 0, .string ByteArray.empty, .string ByteArray.empty, .string ByteArray.empty, .slice none 0 0, .slice none 0 0]) := Lib.hid fun W => Val.plain_at _ _ kd false 0 _ _ _ (by constructor <;> omega) (by constructor <;> omega) empty_le empty_le empty_le
    have HOne := Lib.hid (HAt.out w2).one
    clear hh2 hg2 hrd2 hO2 hgw2
    go_wp2_with (first | refine wpList_load_cells rfl 27 _ rfl w1.heap.size 0 rfl Try.agg27 Try.size27 rfl HO.out ?_ | (refine wpList_store_whole rfl 27 _ _ rfl w.heap.size rfl [.int .i64 kd, .bool false, .int .i64 0, .string ByteArray.empty, .string ByteArray.empty, .string ByteArray.empty, .slice none 0 0, .slice none 0 0] rfl Try.size27 rfl 27 zeroCells.toArray HR2.out rfl HOne.out ?_; intro wz hwz))
    have hgz : GrownBy w2 wz (some w.heap.size) := by rw [hwz]; exact GrownBy.setRow _ _ _
    have hcz : CellsAt wz w.heap.size 0 [.int .i64 kd, .bool false, .int .i64 0, .string ByteArray.empty, .string ByteArray.empty, .string ByteArray.empty, .slice none 0 0, .slice none 0 0] := by rw [hwz]; exact cellsAt_setRow HR2.out rfl
    refine bodyPost_ret (v := .agg [.int .i64 kd, .bool false, .int .i64 0, .string ByteArray.empty, .string ByteArray.empty, .string ByteArray.empty, .slice none 0 0, .slice none 0 0].toArray) (results_one (cs := [.int .i64 kd, .bool false, .int .i64 0, .string ByteArray.empty, .string ByteArray.empty, .string ByteArray.empty, .slice none 0 0, .slice none 0 0]) Try.results60 rfl Try.agg27 Try.size27 rfl hcz) rfl ⟨HGw2.out.fresh hgz (.inr (Nat.le_refl _)), .mk kd false 0 empty empty empty [] [], [.int .i64 kd, .bool false, .int .i64 0, .string ByteArray.empty, .string ByteArray.empty, .string ByteArray.empty, .slice none 0 0, .slice none 0 0], _, _, rfl, HAt.out wz, HRd2.out.same hgz.size (hgz.block g HRd2.out.lt (fun e => by injection e with e; omega)) (fun b hb _ => hgz.block b (Nat.lt_of_lt_of_le hb HRd2.out.lim) (fun e => by injection e with e; have := H.out.lim; omega)), reads_deep HN1.out.2.1 (by unfold Val.dep; split <;> simp [Val.deps])⟩
  have t0 : decide ((50 : Int) < deep) = false := by simp; omega
  have hd50 : deep ≤ 50 := by omega
  clear hdeep
  by_cases hk1 : kd = 1
  · subst hk1
    go_wp2_with fail
    refine (numberN_ok lim g 1 _ bs1 bad1 (HRd1.out.ext ((Ext.refl w1).alloc _)) (by omega)).mono ?_
    rintro e w2 ⟨hg2, y, bs2, bad2, rfl, hrd2, hN2⟩
    have hO2 : w2.heap[w1.heap.size]? = some (.cells [.int .i64 1, .bool false, .int .i64 0, .string ByteArray.empty, .string ByteArray.empty, .string ByteArray.empty, .slice none 0 0, .slice none 0 0].toArray 27 (0, 0)) := (hg2.block w1.heap.size (by simp) (fun e => by injection e with e; omega)).trans (heap_alloc_new w1 _)
    have hR2 : w2.heap[w.heap.size]? = some (.cells zeroCells.toArray 27 (0, 0)) := (hg2.block w.heap.size (by simp; omega) (fun e => by injection e with e; omega)).trans ((Below.heap_alloc w1 _ _ hs1).trans HR1.out)
    have HGw2 := Lib.hid (HGw1.out.trans ((GrownBy.of_ext _ ((Ext.refl w1).alloc _)).trans hg2))
    have HRd2 := Lib.hid hrd2
    have HN2 := Lib.hid hN2
    have HO2 := Lib.hid hO2
    have HR2 := Lib.hid hR2
    clear hg2 hrd2 hN2 hO2 hR2
    go_wp2_with (refine wpList_store_one rfl 4 (.tmp 27) (.tmp 26) rfl w1.heap.size 1 rfl (.bool ((y : Int) == 1)) (by first | rfl | simp) rfl rfl Try.sizeB4 27 _ HO2.out (by simp) ?_)
    intro w3 hh3 hg3
    have hO3 : w3.heap[w1.heap.size]? = some (.cells [.int .i64 1, .bool ((y : Int) == 1), .int .i64 0, .string ByteArray.empty, .string ByteArray.empty, .string ByteArray.empty, .slice none 0 0, .slice none 0 0].toArray 27 (0, 0)) := hh3
    have HO : Hid (CellsAt w3 w1.heap.size 0 [.int .i64 1, .bool ((y : Int) == 1), .int .i64 0, .string ByteArray.empty, .string ByteArray.empty, .string ByteArray.empty, .slice none 0 0, .slice none 0 0]) := Lib.hid fun j v hj => by rw [cell_of_row _ _ _ _ _ _ hO3, Nat.zero_add]; simpa using hj
    have HR3 : Hid (w3.heap[w.heap.size]? = some (.cells zeroCells.toArray 27 (0, 0))) := Lib.hid ((hg3.block w.heap.size (Blk_lt HR2.out) (fun e => by injection e with e; omega)).trans HR2.out)
    have HGw3 := Lib.hid (HGw2.out.fresh hg3 (.inr (by omega)))
    have HRd3 := Lib.hid (HRd2.out.same hg3.size (hg3.block g HRd2.out.lt (fun e => by injection e with e; omega)) fun b hb _ => hg3.block b (Nat.lt_of_lt_of_le hb HRd2.out.lim) (fun e => by injection e with e; have := H.out.lim; omega))
    have HAt : Hid (∀ W, Val.At (fun b => w.heap.size ≤ b ∧ b < W.heap.size) W (.mk 1 ((y : Int) == 1) 0 empty empty empty [] []) [.int .i64 1, .bool ((y : Int) == 1), .int .i64 0, .string ByteArray.empty, .string ByteArray.empty, .string ByteArray.empty, .slice none 0 0, .slice none 0 0]) := Lib.hid fun W => Val.plain_at _ _ _ _ _ _ _ _ (by constructor <;> omega) (by constructor <;> omega) empty_le empty_le empty_le
    have HOne := Lib.hid (HAt.out w3).one
    clear hh3 hg3 hO3
    go_wp2_with (first | refine wpList_load_cells rfl 27 _ rfl w1.heap.size 0 rfl Try.agg27 Try.size27 rfl HO.out ?_ | (refine wpList_store_whole rfl 27 _ _ rfl w.heap.size rfl [.int .i64 1, .bool ((y : Int) == 1), .int .i64 0, .string ByteArray.empty, .string ByteArray.empty, .string ByteArray.empty, .slice none 0 0, .slice none 0 0] rfl Try.size27 rfl 27 zeroCells.toArray HR3.out rfl HOne.out ?_; intro wz hwz))
    have hgz : GrownBy w3 wz (some w.heap.size) := by rw [hwz]; exact GrownBy.setRow _ _ _
    have hcz : CellsAt wz w.heap.size 0 [.int .i64 1, .bool ((y : Int) == 1), .int .i64 0, .string ByteArray.empty, .string ByteArray.empty, .string ByteArray.empty, .slice none 0 0, .slice none 0 0] := by rw [hwz]; exact cellsAt_setRow HR3.out rfl
    refine bodyPost_ret (v := .agg [.int .i64 1, .bool ((y : Int) == 1), .int .i64 0, .string ByteArray.empty, .string ByteArray.empty, .string ByteArray.empty, .slice none 0 0, .slice none 0 0].toArray) (results_one (cs := [.int .i64 1, .bool ((y : Int) == 1), .int .i64 0, .string ByteArray.empty, .string ByteArray.empty, .string ByteArray.empty, .slice none 0 0, .slice none 0 0]) Try.results60 rfl Try.agg27 Try.size27 rfl hcz) rfl ⟨HGw3.out.fresh hgz (.inr (Nat.le_refl _)), .mk 1 ((y : Int) == 1) 0 empty empty empty [] [], [.int .i64 1, .bool ((y : Int) == 1), .int .i64 0, .string ByteArray.empty, .string ByteArray.empty, .string ByteArray.empty, .slice none 0 0, .slice none 0 0], _, _, rfl, HAt.out wz, HRd3.out.same hgz.size (hgz.block g HRd3.out.lt (fun e => by injection e with e; omega)) (fun b hb _ => hgz.block b (Nat.lt_of_lt_of_le hb HRd3.out.lim) (fun e => by injection e with e; have := H.out.lim; omega)), reads_1 HN1.out HN2.out⟩
  by_cases hk2 : kd = 2
  · subst hk2
    go_wp2_with fail
    refine (numberN_ok lim g 8 _ bs1 bad1 (HRd1.out.ext ((Ext.refl w1).alloc _)) (by omega)).mono ?_
    rintro e w2 ⟨hg2, y, bs2, bad2, rfl, hrd2, hN2⟩
    have hO2 : w2.heap[w1.heap.size]? = some (.cells [.int .i64 2, .bool false, .int .i64 0, .string ByteArray.empty, .string ByteArray.empty, .string ByteArray.empty, .slice none 0 0, .slice none 0 0].toArray 27 (0, 0)) := (hg2.block w1.heap.size (by simp) (fun e => by injection e with e; omega)).trans (heap_alloc_new w1 _)
    have hR2 : w2.heap[w.heap.size]? = some (.cells zeroCells.toArray 27 (0, 0)) := (hg2.block w.heap.size (by simp; omega) (fun e => by injection e with e; omega)).trans ((Below.heap_alloc w1 _ _ hs1).trans HR1.out)
    have HGw2 := Lib.hid (HGw1.out.trans ((GrownBy.of_ext _ ((Ext.refl w1).alloc _)).trans hg2))
    have HRd2 := Lib.hid hrd2
    have HN2 := Lib.hid hN2
    have HO2 := Lib.hid hO2
    have HR2 := Lib.hid hR2
    clear hg2 hrd2 hN2 hO2 hR2
    go_wp2_with (refine wpList_store_one rfl 2 (.tmp 33) (.tmp 32) rfl w1.heap.size 2 rfl (.int .i64 (wrap64 y)) (by first | rfl | simp) rfl rfl Try.sizeI2 27 _ HO2.out (by simp) ?_)
    intro w3 hh3 hg3
    have hO3 : w3.heap[w1.heap.size]? = some (.cells [.int .i64 2, .bool false, .int .i64 (wrap64 y), .string ByteArray.empty, .string ByteArray.empty, .string ByteArray.empty, .slice none 0 0, .slice none 0 0].toArray 27 (0, 0)) := hh3
    have HO : Hid (CellsAt w3 w1.heap.size 0 [.int .i64 2, .bool false, .int .i64 (wrap64 y), .string ByteArray.empty, .string ByteArray.empty, .string ByteArray.empty, .slice none 0 0, .slice none 0 0]) := Lib.hid fun j v hj => by rw [cell_of_row _ _ _ _ _ _ hO3, Nat.zero_add]; simpa using hj
    have HR3 : Hid (w3.heap[w.heap.size]? = some (.cells zeroCells.toArray 27 (0, 0))) := Lib.hid ((hg3.block w.heap.size (Blk_lt HR2.out) (fun e => by injection e with e; omega)).trans HR2.out)
    have HGw3 := Lib.hid (HGw2.out.fresh hg3 (.inr (by omega)))
    have HRd3 := Lib.hid (HRd2.out.same hg3.size (hg3.block g HRd2.out.lt (fun e => by injection e with e; omega)) fun b hb _ => hg3.block b (Nat.lt_of_lt_of_le hb HRd2.out.lim) (fun e => by injection e with e; have := H.out.lim; omega))
    have HAt : Hid (∀ W, Val.At (fun b => w.heap.size ≤ b ∧ b < W.heap.size) W (.mk 2 false (wrap64 y) empty empty empty [] []) [.int .i64 2, .bool false, .int .i64 (wrap64 y), .string ByteArray.empty, .string ByteArray.empty, .string ByteArray.empty, .slice none 0 0, .slice none 0 0]) := Lib.hid fun W => Val.plain_at _ _ _ _ _ _ _ _ (by constructor <;> omega) (i64_wrap_in _) empty_le empty_le empty_le
    have HOne := Lib.hid (HAt.out w3).one
    clear hh3 hg3 hO3
    go_wp2_with (first | refine wpList_load_cells rfl 27 _ rfl w1.heap.size 0 rfl Try.agg27 Try.size27 rfl HO.out ?_ | (refine wpList_store_whole rfl 27 _ _ rfl w.heap.size rfl [.int .i64 2, .bool false, .int .i64 (wrap64 y), .string ByteArray.empty, .string ByteArray.empty, .string ByteArray.empty, .slice none 0 0, .slice none 0 0] rfl Try.size27 rfl 27 zeroCells.toArray HR3.out rfl HOne.out ?_; intro wz hwz))
    have hgz : GrownBy w3 wz (some w.heap.size) := by rw [hwz]; exact GrownBy.setRow _ _ _
    have hcz : CellsAt wz w.heap.size 0 [.int .i64 2, .bool false, .int .i64 (wrap64 y), .string ByteArray.empty, .string ByteArray.empty, .string ByteArray.empty, .slice none 0 0, .slice none 0 0] := by rw [hwz]; exact cellsAt_setRow HR3.out rfl
    refine bodyPost_ret (v := .agg [.int .i64 2, .bool false, .int .i64 (wrap64 y), .string ByteArray.empty, .string ByteArray.empty, .string ByteArray.empty, .slice none 0 0, .slice none 0 0].toArray) (results_one (cs := [.int .i64 2, .bool false, .int .i64 (wrap64 y), .string ByteArray.empty, .string ByteArray.empty, .string ByteArray.empty, .slice none 0 0, .slice none 0 0]) Try.results60 rfl Try.agg27 Try.size27 rfl hcz) rfl ⟨HGw3.out.fresh hgz (.inr (Nat.le_refl _)), .mk 2 false (wrap64 y) empty empty empty [] [], [.int .i64 2, .bool false, .int .i64 (wrap64 y), .string ByteArray.empty, .string ByteArray.empty, .string ByteArray.empty, .slice none 0 0, .slice none 0 0], _, _, rfl, HAt.out wz, HRd3.out.same hgz.size (hgz.block g HRd3.out.lt (fun e => by injection e with e; omega)) (fun b hb _ => hgz.block b (Nat.lt_of_lt_of_le hb HRd3.out.lim) (fun e => by injection e with e; have := H.out.lim; omega)), reads_2 HN1.out HN2.out⟩
  by_cases hk3 : kd = 3
  · subst hk3
    go_wp2_with fail
    refine (textT_ok lim g _ bs1 bad1 (HRd1.out.ext ((Ext.refl w1).alloc _)) hl1).mono ?_
    rintro e w2 ⟨hg2, y, bs2, bad2, rfl, hrd2, hN2⟩
    have hO2 : w2.heap[w1.heap.size]? = some (.cells [.int .i64 3, .bool false, .int .i64 0, .string ByteArray.empty, .string ByteArray.empty, .string ByteArray.empty, .slice none 0 0, .slice none 0 0].toArray 27 (0, 0)) := (hg2.block w1.heap.size (by simp) (fun e => by injection e with e; omega)).trans (heap_alloc_new w1 _)
    have hR2 : w2.heap[w.heap.size]? = some (.cells zeroCells.toArray 27 (0, 0)) := (hg2.block w.heap.size (by simp; omega) (fun e => by injection e with e; omega)).trans ((Below.heap_alloc w1 _ _ hs1).trans HR1.out)
    have HGw2 := Lib.hid (HGw1.out.trans ((GrownBy.of_ext _ ((Ext.refl w1).alloc _)).trans hg2))
    have HRd2 := Lib.hid hrd2
    have HN2 := Lib.hid hN2
    have HO2 := Lib.hid hO2
    have HR2 := Lib.hid hR2
    clear hg2 hrd2 hN2 hO2 hR2
    go_wp2_with (refine wpList_store_one rfl 9 (.tmp 38) (.tmp 37) rfl w1.heap.size 3 rfl (.string y) (by first | rfl | simp) rfl rfl Try.sizeS9 27 _ HO2.out (by simp) ?_)
    intro w3 hh3 hg3
    have hO3 : w3.heap[w1.heap.size]? = some (.cells [.int .i64 3, .bool false, .int .i64 0, .string y, .string ByteArray.empty, .string ByteArray.empty, .slice none 0 0, .slice none 0 0].toArray 27 (0, 0)) := hh3
    have HO : Hid (CellsAt w3 w1.heap.size 0 [.int .i64 3, .bool false, .int .i64 0, .string y, .string ByteArray.empty, .string ByteArray.empty, .slice none 0 0, .slice none 0 0]) := Lib.hid fun j v hj => by rw [cell_of_row _ _ _ _ _ _ hO3, Nat.zero_add]; simpa using hj
    have HR3 : Hid (w3.heap[w.heap.size]? = some (.cells zeroCells.toArray 27 (0, 0))) := Lib.hid ((hg3.block w.heap.size (Blk_lt HR2.out) (fun e => by injection e with e; omega)).trans HR2.out)
    have HGw3 := Lib.hid (HGw2.out.fresh hg3 (.inr (by omega)))
    have HRd3 := Lib.hid (HRd2.out.same hg3.size (hg3.block g HRd2.out.lt (fun e => by injection e with e; omega)) fun b hb _ => hg3.block b (Nat.lt_of_lt_of_le hb HRd2.out.lim) (fun e => by injection e with e; have := H.out.lim; omega))
    have HAt : Hid (∀ W, Val.At (fun b => w.heap.size ≤ b ∧ b < W.heap.size) W (.mk 3 false 0 y empty empty [] []) [.int .i64 3, .bool false, .int .i64 0, .string y, .string ByteArray.empty, .string ByteArray.empty, .slice none 0 0, .slice none 0 0]) := Lib.hid fun W => Val.plain_at _ _ _ _ _ _ _ _ (by constructor <;> omega) (by constructor <;> omega) (by have := HN2.out.2.2.1; rw [maxLen_eq]; omega) empty_le empty_le
    have HOne := Lib.hid (HAt.out w3).one
    clear hh3 hg3 hO3
    go_wp2_with (first | refine wpList_load_cells rfl 27 _ rfl w1.heap.size 0 rfl Try.agg27 Try.size27 rfl HO.out ?_ | (refine wpList_store_whole rfl 27 _ _ rfl w.heap.size rfl [.int .i64 3, .bool false, .int .i64 0, .string y, .string ByteArray.empty, .string ByteArray.empty, .slice none 0 0, .slice none 0 0] rfl Try.size27 rfl 27 zeroCells.toArray HR3.out rfl HOne.out ?_; intro wz hwz))
    have hgz : GrownBy w3 wz (some w.heap.size) := by rw [hwz]; exact GrownBy.setRow _ _ _
    have hcz : CellsAt wz w.heap.size 0 [.int .i64 3, .bool false, .int .i64 0, .string y, .string ByteArray.empty, .string ByteArray.empty, .slice none 0 0, .slice none 0 0] := by rw [hwz]; exact cellsAt_setRow HR3.out rfl
    refine bodyPost_ret (v := .agg [.int .i64 3, .bool false, .int .i64 0, .string y, .string ByteArray.empty, .string ByteArray.empty, .slice none 0 0, .slice none 0 0].toArray) (results_one (cs := [.int .i64 3, .bool false, .int .i64 0, .string y, .string ByteArray.empty, .string ByteArray.empty, .slice none 0 0, .slice none 0 0]) Try.results60 rfl Try.agg27 Try.size27 rfl hcz) rfl ⟨HGw3.out.fresh hgz (.inr (Nat.le_refl _)), .mk 3 false 0 y empty empty [] [], [.int .i64 3, .bool false, .int .i64 0, .string y, .string ByteArray.empty, .string ByteArray.empty, .slice none 0 0, .slice none 0 0], _, _, rfl, HAt.out wz, HRd3.out.same hgz.size (hgz.block g HRd3.out.lt (fun e => by injection e with e; omega)) (fun b hb _ => hgz.block b (Nat.lt_of_lt_of_le hb HRd3.out.lim) (fun e => by injection e with e; have := H.out.lim; omega)), reads_3 HN1.out HN2.out⟩
  by_cases hk4 : kd = 4
  · subst hk4
    go_wp2_with fail
    refine (textT_ok lim g _ bs1 bad1 (HRd1.out.ext ((Ext.refl w1).alloc _)) hl1).mono ?_
    rintro e w2 ⟨hg2, y, bs2, bad2, rfl, hrd2, hN2⟩
    have hO2 : w2.heap[w1.heap.size]? = some (.cells [.int .i64 4, .bool false, .int .i64 0, .string ByteArray.empty, .string ByteArray.empty, .string ByteArray.empty, .slice none 0 0, .slice none 0 0].toArray 27 (0, 0)) := (hg2.block w1.heap.size (by simp) (fun e => by injection e with e; omega)).trans (heap_alloc_new w1 _)
    have hR2 : w2.heap[w.heap.size]? = some (.cells zeroCells.toArray 27 (0, 0)) := (hg2.block w.heap.size (by simp; omega) (fun e => by injection e with e; omega)).trans ((Below.heap_alloc w1 _ _ hs1).trans HR1.out)
    have HGw2 := Lib.hid (HGw1.out.trans ((GrownBy.of_ext _ ((Ext.refl w1).alloc _)).trans hg2))
    have HRd2 := Lib.hid hrd2
    have HN2 := Lib.hid hN2
    have HO2 := Lib.hid hO2
    have HR2 := Lib.hid hR2
    clear hg2 hrd2 hN2 hO2 hR2
    go_wp2_with (refine wpList_store_one rfl 9 (.tmp 44) (.tmp 42) rfl w1.heap.size 4 rfl (.string y) rfl rfl rfl Try.sizeS9 27 _ HO2.out (by simp) ?_)
    intro w3 hh3 hg3
    have HO3 : Hid (w3.heap[w1.heap.size]? = some (.cells [.int .i64 4, .bool false, .int .i64 0, .string ByteArray.empty, .string y, .string ByteArray.empty, .slice none 0 0, .slice none 0 0].toArray 27 (0, 0))) := Lib.hid hh3
    have HR3 : Hid (w3.heap[w.heap.size]? = some (.cells zeroCells.toArray 27 (0, 0))) := Lib.hid ((hg3.block w.heap.size (Blk_lt HR2.out) (fun e => by injection e with e; omega)).trans HR2.out)
    have HGw3 := Lib.hid (HGw2.out.fresh hg3 (.inr (by omega)))
    have HRd3 := Lib.hid (HRd2.out.same hg3.size (hg3.block g HRd2.out.lt (fun e => by injection e with e; omega)) fun b hb _ => hg3.block b (Nat.lt_of_lt_of_le hb HRd2.out.lim) (fun e => by injection e with e; have := H.out.lim; omega))
    clear hh3 hg3
    go_wp2_with fail
    refine (textT_ok lim g w3 bs2 bad2 HRd3.out (by have := HN2.out.2.1; omega)).mono ?_
    rintro e w4 ⟨hg4, z, bs4, bad4, rfl, hrd4, hN4⟩
    have HO4 : Hid (w4.heap[w1.heap.size]? = some (.cells [.int .i64 4, .bool false, .int .i64 0, .string ByteArray.empty, .string y, .string ByteArray.empty, .slice none 0 0, .slice none 0 0].toArray 27 (0, 0))) := Lib.hid ((hg4.block w1.heap.size (Blk_lt HO3.out) (fun e => by injection e with e; omega)).trans HO3.out)
    have HR4 : Hid (w4.heap[w.heap.size]? = some (.cells zeroCells.toArray 27 (0, 0))) := Lib.hid ((hg4.block w.heap.size (Blk_lt HR3.out) (fun e => by injection e with e; omega)).trans HR3.out)
    have HGw4 := Lib.hid (HGw3.out.trans hg4)
    have HRd4 := Lib.hid hrd4
    have HN4 := Lib.hid hN4
    clear hg4 hrd4 hN4
    go_wp2_with (refine wpList_store_one rfl 9 (.tmp 48) (.tmp 46) rfl w1.heap.size 5 rfl (.string z) rfl rfl rfl Try.sizeS9 27 _ HO4.out (by simp) ?_)
    intro w5 hh5 hg5
    have hO5 : w5.heap[w1.heap.size]? = some (.cells [.int .i64 4, .bool false, .int .i64 0, .string ByteArray.empty, .string y, .string z, .slice none 0 0, .slice none 0 0].toArray 27 (0, 0)) := hh5
    have HO : Hid (CellsAt w5 w1.heap.size 0 [.int .i64 4, .bool false, .int .i64 0, .string ByteArray.empty, .string y, .string z, .slice none 0 0, .slice none 0 0]) := Lib.hid fun j v hj => by rw [cell_of_row _ _ _ _ _ _ hO5, Nat.zero_add]; simpa using hj
    have HR5 : Hid (w5.heap[w.heap.size]? = some (.cells zeroCells.toArray 27 (0, 0))) := Lib.hid ((hg5.block w.heap.size (Blk_lt HR4.out) (fun e => by injection e with e; omega)).trans HR4.out)
    have HGw5 := Lib.hid (HGw4.out.fresh hg5 (.inr (by omega)))
    have HRd5 := Lib.hid (HRd4.out.same hg5.size (hg5.block g HRd4.out.lt (fun e => by injection e with e; omega)) fun b hb _ => hg5.block b (Nat.lt_of_lt_of_le hb HRd4.out.lim) (fun e => by injection e with e; have := H.out.lim; omega))
    have HAt : Hid (∀ W, Val.At (fun b => w.heap.size ≤ b ∧ b < W.heap.size) W (.mk 4 false 0 empty y z [] []) [.int .i64 4, .bool false, .int .i64 0, .string ByteArray.empty, .string y, .string z, .slice none 0 0, .slice none 0 0]) := Lib.hid fun W => Val.plain_at _ _ _ _ _ _ _ _ (by constructor <;> omega) (by constructor <;> omega) empty_le (by have := HN2.out.2.2.1; rw [maxLen_eq]; omega) (by have := HN4.out.2.2.1; have := HN2.out.2.1; rw [maxLen_eq]; omega)
    have HOne := Lib.hid (HAt.out w5).one
    clear hh5 hg5 hO5
    go_wp2_with (first | refine wpList_load_cells rfl 27 _ rfl w1.heap.size 0 rfl Try.agg27 Try.size27 rfl HO.out ?_ | (refine wpList_store_whole rfl 27 _ _ rfl w.heap.size rfl [.int .i64 4, .bool false, .int .i64 0, .string ByteArray.empty, .string y, .string z, .slice none 0 0, .slice none 0 0] rfl Try.size27 rfl 27 zeroCells.toArray HR5.out rfl HOne.out ?_; intro wz hwz))
    have hgz : GrownBy w5 wz (some w.heap.size) := by rw [hwz]; exact GrownBy.setRow _ _ _
    have hcz : CellsAt wz w.heap.size 0 [.int .i64 4, .bool false, .int .i64 0, .string ByteArray.empty, .string y, .string z, .slice none 0 0, .slice none 0 0] := by rw [hwz]; exact cellsAt_setRow HR5.out rfl
    refine bodyPost_ret (v := .agg [.int .i64 4, .bool false, .int .i64 0, .string ByteArray.empty, .string y, .string z, .slice none 0 0, .slice none 0 0].toArray) (results_one (cs := [.int .i64 4, .bool false, .int .i64 0, .string ByteArray.empty, .string y, .string z, .slice none 0 0, .slice none 0 0]) Try.results60 rfl Try.agg27 Try.size27 rfl hcz) rfl ⟨HGw5.out.fresh hgz (.inr (Nat.le_refl _)), .mk 4 false 0 empty y z [] [], [.int .i64 4, .bool false, .int .i64 0, .string ByteArray.empty, .string y, .string z, .slice none 0 0, .slice none 0 0], _, _, rfl, HAt.out wz, HRd5.out.same hgz.size (hgz.block g HRd5.out.lt (fun e => by injection e with e; omega)) (fun b hb _ => hgz.block b (Nat.lt_of_lt_of_le hb HRd5.out.lim) (fun e => by injection e with e; have := H.out.lim; omega)), reads_4 HN1.out HN2.out HN4.out⟩
  by_cases hk0 : ¬ (1 ≤ kd ∧ kd ≤ 6)
  · have HK0 := Lib.hid hk0
    have e1 : ((kd : Int) == 1) = false := by simp; omega
    have e2 : ((kd : Int) == 2) = false := by simp; omega
    have e3 : ((kd : Int) == 3) = false := by simp; omega
    have e4 : ((kd : Int) == 4) = false := by simp; omega
    have e5 : ((kd : Int) == 5) = false := by simp; omega
    have e6 : ((kd : Int) == 6) = false := by simp; omega
    clear hk0 hk1 hk2 hk3 hk4
    go_wp2_with (refine wpList_store_one rfl 4 (.tmp 21) _ rfl g 1 rfl (.bool true) rfl rfl rfl Try.sizeB4 80 _ ((Below.heap_alloc w1 _ g hg1').trans HH1.out) (by simp) ?_)
    intro w2 hh2 hg2
    have hrd2 := RdAt.bad (HRd1.out.ext ((Ext.refl w1).alloc _)) ((Below.heap_alloc w1 _ g hg1').trans HH1.out) hh2 hg2
    have HRd2 := Lib.hid hrd2
    have hO2 : w2.heap[w1.heap.size]? = some (.cells [.int .i64 kd, .bool false, .int .i64 0, .string ByteArray.empty, .string ByteArray.empty, .string ByteArray.empty, .slice none 0 0, .slice none 0 0].toArray 27 (0, 0)) := (hg2.block w1.heap.size (by simp) (fun e => by injection e with e; omega)).trans (heap_alloc_new w1 _)
    have HO : Hid (CellsAt w2 w1.heap.size 0 [.int .i64 kd, .bool false, .int .i64 0, .string ByteArray.empty, .string ByteArray.empty, .string ByteArray.empty, .slice none 0 0, .slice none 0 0]) := Lib.hid fun j v hj => by rw [cell_of_row _ _ _ _ _ _ hO2, Nat.zero_add]; simpa using hj
    have hgw2 := HGw1.out.trans ((GrownBy.of_ext _ ((Ext.refl w1).alloc _)).trans hg2)
    have HGw2 := Lib.hid hgw2
    have HR2 : Hid (w2.heap[w.heap.size]? = some (.cells zeroCells.toArray 27 (0, 0))) := Lib.hid ((hg2.block w.heap.size (by simp; omega) (fun e => by injection e with e; omega)).trans ((Below.heap_alloc w1 _ _ hs1).trans HR1.out))
    have HAt : Hid (∀ W, Val.At (fun b => w.heap.size ≤ b ∧ b < W.heap.size) W (.mk kd false 0 empty empty empty [] []) [.int .i64 kd, .bool false, .int .i64 0, .string ByteArray.empty, .string ByteArray.empty, .string ByteArray.empty, .slice none 0 0, .slice none 0 0]) := Lib.hid fun W => Val.plain_at _ _ kd false 0 _ _ _ (by constructor <;> omega) (by constructor <;> omega) empty_le empty_le empty_le
    have HOne := Lib.hid (HAt.out w2).one
    clear hh2 hg2 hrd2 hO2 hgw2 e1 e2 e3 e4 e5 e6
    go_wp2_with (first | refine wpList_load_cells rfl 27 _ rfl w1.heap.size 0 rfl Try.agg27 Try.size27 rfl HO.out ?_ | (refine wpList_store_whole rfl 27 _ _ rfl w.heap.size rfl [.int .i64 kd, .bool false, .int .i64 0, .string ByteArray.empty, .string ByteArray.empty, .string ByteArray.empty, .slice none 0 0, .slice none 0 0] rfl Try.size27 rfl 27 zeroCells.toArray HR2.out rfl HOne.out ?_; intro wz hwz))
    have hgz : GrownBy w2 wz (some w.heap.size) := by rw [hwz]; exact GrownBy.setRow _ _ _
    have hcz : CellsAt wz w.heap.size 0 [.int .i64 kd, .bool false, .int .i64 0, .string ByteArray.empty, .string ByteArray.empty, .string ByteArray.empty, .slice none 0 0, .slice none 0 0] := by rw [hwz]; exact cellsAt_setRow HR2.out rfl
    refine bodyPost_ret (v := .agg [.int .i64 kd, .bool false, .int .i64 0, .string ByteArray.empty, .string ByteArray.empty, .string ByteArray.empty, .slice none 0 0, .slice none 0 0].toArray) (results_one (cs := [.int .i64 kd, .bool false, .int .i64 0, .string ByteArray.empty, .string ByteArray.empty, .string ByteArray.empty, .slice none 0 0, .slice none 0 0]) Try.results60 rfl Try.agg27 Try.size27 rfl hcz) rfl ⟨HGw2.out.fresh hgz (.inr (Nat.le_refl _)), .mk kd false 0 empty empty empty [] [], [.int .i64 kd, .bool false, .int .i64 0, .string ByteArray.empty, .string ByteArray.empty, .string ByteArray.empty, .slice none 0 0, .slice none 0 0], _, _, rfl, HAt.out wz, HRd2.out.same hgz.size (hgz.block g HRd2.out.lt (fun e => by injection e with e; omega)) (fun b hb _ => hgz.block b (Nat.lt_of_lt_of_le hb HRd2.out.lim) (fun e => by injection e with e; have := H.out.lim; omega)), reads_none HN1.out HK0.out (by unfold Val.dep; split <;> simp [Val.deps])⟩
  by_cases hk5 : kd = 5
  · subst hk5
    obtain ⟨m', rfl⟩ : ∃ m', m = m' + 1 := ⟨m - 1, by omega⟩
    go_wp2_with fail
    refine (numberN_ok lim g 4 _ bs1 bad1 (HRd1.out.ext ((Ext.refl w1).alloc _)) (by omega)).mono ?_
    rintro e w2 ⟨hg2, n0, bs2, bad2, rfl, hrd2, hN2⟩
    have hW : GrownBy (w1.alloc (.cells [.int .i64 5, .bool false, .int .i64 0, .string ByteArray.empty, .string ByteArray.empty, .string ByteArray.empty, .slice none 0 0, .slice none 0 0].toArray 27)) w2 (some g) := hg2
    obtain ⟨W0, hW0⟩ : ∃ W, W = w1.alloc (.cells [.int .i64 5, .bool false, .int .i64 0, .string ByteArray.empty, .string ByteArray.empty, .string ByteArray.empty, .slice none 0 0, .slice none 0 0].toArray 27) := ⟨_, rfl⟩
    rw [← hW0] at hW
    have hOW : w1.heap.size < W0.heap.size := by rw [hW0]; simp
    have hxg : GrownBy w W0 (some g) := by rw [hW0]; exact HGw1.out.trans (GrownBy.of_ext _ ((Ext.refl w1).alloc _))
    have hR0 : W0.heap[w.heap.size]? = some (.cells zeroCells.toArray 27 (0, 0)) := by rw [hW0]; exact (Below.heap_alloc w1 _ _ hs1).trans HR1.out
    have hO2 : w2.heap[w1.heap.size]? = some (.cells (rdBox 5 (.slice none 0 0) (.slice none 0 0)) 27 (0, 0)) := (hW.block w1.heap.size hOW (fun e => by injection e with e; omega)).trans (by rw [hW0]; exact heap_alloc_new w1 _)
    have hrdg : Rdg W0 g w1.heap.size 5 [] [] w2 := ⟨Off.of_grown hW fun b e => by injection e with e; exact .inl e.symm, .slice none 0 0, .slice none 0 0, [], hO2, World.ownsRow_nil _ _ _ _, World.ownsRow_nil _ _ _ _, rfl⟩
    have hgW : g < W0.heap.size := by omega
    have hn0 : n0 < 4294967296 := by simpa using hN2.2.2.2.1
    have hrl : ReadsL false bs bad (m' + 1) [] [] n0 bs2 bad2 := ReadsL.start HN1.out hN2
    have HXg := Lib.hid hxg
    have HR0 := Lib.hid hR0
    have HRdg := Lib.hid hrdg
    have HRd2 := Lib.hid hrd2
    have HRl := Lib.hid hrl
    obtain ⟨iV, hiV, hzV, hsV, hbV⟩ := info_parts Try.info27
    obtain ⟨iS, hiS, hzS, hsS, hbS⟩ := info_parts Try.info9
    clear hg2 hW hW0 hxg hR0 hO2 hrdg hrd2 hrl hN2
    go_wp2_with fail
    go_loopw [6] (fun u6 wr => ∃ n : Nat, u6 = .int .u64 n ∧ n < 4294967296 ∧ Hid (∃ (L : List Val) (M : List ByteArray) (bsk : List UInt8) (badk : Bool), Rdg W0 g w1.heap.size 5 L M wr ∧ RdAt lim wr g bsk badk ∧ ReadsL false bs bad (m' + 1) L M n bsk badk ∧ L.length ≤ 65537 ∧ M.length ≤ 65537 ∧ (∀ s ∈ M, s.size ≤ 65536))) (fun u6 _ => (intOf u6).toNat)
    case atStart => exact ⟨n0, rfl, hn0, Lib.hid ⟨[], [], bs2, bad2, HRdg.out, HRd2.out, HRl.out, by simp, by simp, by simp⟩⟩
    case round =>
      obtain ⟨n, rfl, hn, HS⟩ := hrel
      obtain ⟨L, M, bsk, badk, hR, hRd, hRL, hL1, hM1, hMs⟩ := HS.out
      obtain ⟨Ak, ck, hhk⟩ := rdAt_heap hRd
      have f1 : wr.cell? ⟨g, 1, none⟩ = some (.bool badk) := by rw [cell_of_row _ _ _ _ _ _ hhk]; rfl
      clear hhk
      by_cases hn0 : n = 0
      · subst hn0
        obtain ⟨cc, hOc, hac⟩ := hR.fin (by constructor <;> omega) hL1 hM1 hMs
        obtain ⟨c0, c1, c2, c3, c4, c5, c6, c7, c8, c9, ca, cb, rfl⟩ := hac.shape
        have HO : Hid (CellsAt wr w1.heap.size 0 [.int .i64 c0, .bool c1, .int .i64 c2, .string c3, .string c4, .string c5, .slice c6 c7 c8, .slice c9 ca cb]) := Lib.hid fun j v hj => by rw [cell_of_row _ _ _ _ _ _ hOc, Nat.zero_add]; simpa using hj
        have HGr := Lib.hid (((Off.of_grown (P := fun b => b = g) HXg.out fun b e => by injection e with e; exact e.symm).fresh hR.off fun b hb => by rcases hb with hb | hb; exact .inl hb; exact .inr (by omega)).grown)
        have HRr : Hid (wr.heap[w.heap.size]? = some (.cells zeroCells.toArray 27 (0, 0))) := Lib.hid ((hR.off.block w.heap.size (by omega) (by omega)).trans HR0.out)
        have HRdr := Lib.hid hRd
        have HRL := Lib.hid hRL
        have HAc := Lib.hid hac
        have HOne := Lib.hid hac.one
        clear hOc hac hR hRd hRL hMs HS
        go_wp2_with (first | refine wpList_load_cells rfl 27 _ rfl w1.heap.size 0 rfl Try.agg27 Try.size27 rfl HO.out ?_ | (refine wpList_store_whole rfl 27 _ _ rfl w.heap.size rfl [.int .i64 c0, .bool c1, .int .i64 c2, .string c3, .string c4, .string c5, .slice c6 c7 c8, .slice c9 ca cb] rfl Try.size27 rfl 27 zeroCells.toArray HRr.out rfl HOne.out ?_; intro wz hwz))
        have hgz : GrownBy wr wz (some w.heap.size) := by rw [hwz]; exact GrownBy.setRow _ _ _
        have hcz : CellsAt wz w.heap.size 0 [.int .i64 c0, .bool c1, .int .i64 c2, .string c3, .string c4, .string c5, .slice c6 c7 c8, .slice c9 ca cb] := by rw [hwz]; exact cellsAt_setRow HRr.out rfl
        refine bodyPost_ret (v := .agg [.int .i64 c0, .bool c1, .int .i64 c2, .string c3, .string c4, .string c5, .slice c6 c7 c8, .slice c9 ca cb].toArray) (results_one (cs := [.int .i64 c0, .bool c1, .int .i64 c2, .string c3, .string c4, .string c5, .slice c6 c7 c8, .slice c9 ca cb]) Try.results60 rfl Try.agg27 Try.size27 rfl hcz) rfl ⟨HGr.out.fresh hgz (.inr (Nat.le_refl _)), .mk 5 false 0 empty empty empty L M, [.int .i64 c0, .bool c1, .int .i64 c2, .string c3, .string c4, .string c5, .slice c6 c7 c8, .slice c9 ca cb], _, _, rfl, (HAc.out.alike (w' := wz) fun b hb => hgz.block b hb.2 (fun e => by injection e with e; have := hb.1; omega)).mono fun b hb => ⟨by have := hb.1; omega, Nat.lt_of_lt_of_le hb.2 hgz.size⟩, HRdr.out.same hgz.size (hgz.block g HRdr.out.lt (fun e => by injection e with e; omega)) (fun b hb _ => hgz.block b (Nat.lt_of_lt_of_le hb HRdr.out.lim) (fun e => by injection e with e; have := H.out.lim; omega)), ReadsL.done (rc := false) HN1.out HRL.out (.inl rfl)⟩
      · cases badk with
        | true =>
          have t1 : decide (0 < n) = true := by simp; omega
          obtain ⟨cc, hOc, hac⟩ := hR.fin (by constructor <;> omega) hL1 hM1 hMs
          obtain ⟨c0, c1, c2, c3, c4, c5, c6, c7, c8, c9, ca, cb, rfl⟩ := hac.shape
          have HO : Hid (CellsAt wr w1.heap.size 0 [.int .i64 c0, .bool c1, .int .i64 c2, .string c3, .string c4, .string c5, .slice c6 c7 c8, .slice c9 ca cb]) := Lib.hid fun j v hj => by rw [cell_of_row _ _ _ _ _ _ hOc, Nat.zero_add]; simpa using hj
          have HGr := Lib.hid (((Off.of_grown (P := fun b => b = g) HXg.out fun b e => by injection e with e; exact e.symm).fresh hR.off fun b hb => by rcases hb with hb | hb; exact .inl hb; exact .inr (by omega)).grown)
          have HRr : Hid (wr.heap[w.heap.size]? = some (.cells zeroCells.toArray 27 (0, 0))) := Lib.hid ((hR.off.block w.heap.size (by omega) (by omega)).trans HR0.out)
          have HRdr := Lib.hid hRd
          have HRL := Lib.hid hRL
          have HAc := Lib.hid hac
          have HOne := Lib.hid hac.one
          clear hOc hac hR hRd hRL hMs HS
          go_wp2_with (first | refine wpList_load_cells rfl 27 _ rfl w1.heap.size 0 rfl Try.agg27 Try.size27 rfl HO.out ?_ | (refine wpList_store_whole rfl 27 _ _ rfl w.heap.size rfl [.int .i64 c0, .bool c1, .int .i64 c2, .string c3, .string c4, .string c5, .slice c6 c7 c8, .slice c9 ca cb] rfl Try.size27 rfl 27 zeroCells.toArray HRr.out rfl HOne.out ?_; intro wz hwz))
          have hgz : GrownBy wr wz (some w.heap.size) := by rw [hwz]; exact GrownBy.setRow _ _ _
          have hcz : CellsAt wz w.heap.size 0 [.int .i64 c0, .bool c1, .int .i64 c2, .string c3, .string c4, .string c5, .slice c6 c7 c8, .slice c9 ca cb] := by rw [hwz]; exact cellsAt_setRow HRr.out rfl
          refine bodyPost_ret (v := .agg [.int .i64 c0, .bool c1, .int .i64 c2, .string c3, .string c4, .string c5, .slice c6 c7 c8, .slice c9 ca cb].toArray) (results_one (cs := [.int .i64 c0, .bool c1, .int .i64 c2, .string c3, .string c4, .string c5, .slice c6 c7 c8, .slice c9 ca cb]) Try.results60 rfl Try.agg27 Try.size27 rfl hcz) rfl ⟨HGr.out.fresh hgz (.inr (Nat.le_refl _)), .mk 5 false 0 empty empty empty L M, [.int .i64 c0, .bool c1, .int .i64 c2, .string c3, .string c4, .string c5, .slice c6 c7 c8, .slice c9 ca cb], _, _, rfl, (HAc.out.alike (w' := wz) fun b hb => hgz.block b hb.2 (fun e => by injection e with e; have := hb.1; omega)).mono fun b hb => ⟨by have := hb.1; omega, Nat.lt_of_lt_of_le hb.2 hgz.size⟩, HRdr.out.same hgz.size (hgz.block g HRdr.out.lt (fun e => by injection e with e; omega)) (fun b hb _ => hgz.block b (Nat.lt_of_lt_of_le hb HRdr.out.lim) (fun e => by injection e with e; have := H.out.lim; omega)), ReadsL.done (rc := false) HN1.out HRL.out (.inr rfl)⟩
        | false =>
          have t1 : decide (0 < n) = true := by simp; omega
          have hlen := hRL.2.2.1 rfl
          have hLm := Val.masses_length L
          have hMm := nameSum_length M
          have hlk : bsk.length ≤ 65536 := by have := hRL.2.1; omega
          have hL2 : L.length ≤ 65536 := by omega
          have hM2 : M.length ≤ 65536 := by omega
          obtain ⟨I, N, xs, hO, hI, hN, hf⟩ := hR.rows
          have f2 : wr.cell? ⟨w1.heap.size, 0, none⟩ = some (.int .i64 5) := by rw [cell_of_row _ _ _ _ _ _ hO]; rfl
          have hw0 : W0.heap.size ≤ wr.heap.size := hR.off.size
          obtain ⟨n1, rfl⟩ : ∃ n1, n = n1 + 1 := ⟨n - 1, by omega⟩
          have HRL := Lib.hid hRL
          have HOff := Lib.hid hR.off
          have HMs := Lib.hid hMs
          clear hlen hLm hMm hL1 hM1 HS
          have HOb := Lib.hid hO
          have HI := Lib.hid hI
          have HN := Lib.hid hN
          have HF := Lib.hid hf
          have HRdk := Lib.hid hRd
          have HLk := Lib.hid hlk
          have HW0 := Lib.hid hw0
          clear hO hI hN hf hRd hlk hw0 hR hRL hMs
          go_wp2_with fail
          clear f1 f2
          refine staged_region 8 [5, 6, 7] [.pointer (some ⟨w1.heap.size, 6, none⟩), I, .pointer (some ⟨g, 0, none⟩), .int .i64 deep, .int .i64 ((deep + 1 : Nat) : Int), undef, undef, undef] (RvalR wr lim g W0.heap.size L.length m' I xs bsk false) (by kernel_rfl) (by kernel_rfl) (by kernel_rfl) (by kernel_rfl)
            ⟨⟨rfl, rfl, rfl, Nat.le_refl _, fun _ _ => rfl⟩, Nat.le_succ _⟩ (fun i op hi hn ho vs W a hRR hold hat => ?_) (fun k i op hk ho vs W a hvl hRR hold hat Q' K hK => ?_) ?_
          · have hp := hRR.off
            have hblk : ∀ j, W.cell? ⟨w1.heap.size, j, none⟩ = wr.cell? ⟨w1.heap.size, j, none⟩ := fun j => World.cell?_of_block (a := ⟨w1.heap.size, j, none⟩) (hp.block w1.heap.size (Blk_lt HOb.out) (by rintro (e | e); omega; have := (HI.out.lt _ e).1; omega))
            rcases (by simp at hn; omega : i = 0 ∨ i = 1 ∨ i = 2 ∨ i = 3 ∨ i = 4) with rfl | rfl | rfl | rfl | rfl <;> obtain rfl := Option.some.inj ho
            · exact exec_field _ _ _ rfl (hold 5 (by kernel_rfl)) (Try.field27 w1.heap.size).2.1
            · exact exec_load_one _ _ rfl w1.heap.size 6 (hat 0 75 (by omega) (by kernel_rfl) (by kernel_rfl)) Try.agg24 ((hblk 6).trans (by rw [cell_of_row _ _ _ _ _ _ HOb.out]; rfl))
            · exact exec_move rfl (hold 0 (by kernel_rfl))
            · exact exec_move rfl (hold 1 (by kernel_rfl))
            · exact exec_addone rfl (hat 3 78 (by omega) (by kernel_rfl) (by kernel_rfl)) (by omega)
          · have hk4 : k < 3 := by simpa using (List.getElem?_eq_some_iff.1 hk).1
            rcases (by omega : k = 0 ∨ k = 1 ∨ k = 2) with rfl | rfl | rfl <;> obtain rfl := Option.some.inj hk <;> obtain rfl := Option.some.inj ho
            · obtain rfl := List.eq_nil_of_length_eq_zero hvl
              have hRR : Ext wr W := hRR
              refine wp_enter2 (Φ := fun v w' => RvalR wr lim g W0.heap.size L.length m' I xs bsk false [v] w') (exec_call Try.func60 rfl rfl rfl (map_two (hat 2 77 (by omega) (by kernel_rfl) (by kernel_rfl)) (hat 4 79 (by omega) (by kernel_rfl) (by kernel_rfl)))) ?_ hK
              refine (IH.out m' rfl (deep + 1) (by omega) lim g W _ _ (HRdk.out.ext hRR) HLk.out (HRdk.out.ext hRR).lt).mono ?_
              rintro e w' ⟨hg', x, cs, bs', bad', rfl, hx, hrd', hrs⟩
              exact ⟨_, rfl, x, cs, bs', bad', rfl, (Off.of_ext hRR _).trans (Off.of_grown hg' fun b e => by injection e with e; exact e.symm), hrd', hrs, hx.mono fun b hb => ⟨Nat.le_trans hRR.size hb.1, hb.2⟩⟩
            · obtain ⟨r1, rfl⟩ := list1 hvl
              obtain ⟨x, cs, bs', bad', rfl, h1, h2, h3, h4⟩ := hRR
              obtain ⟨e0, e1, e2, e3, e4, e5, e6, e7, e8, e9, ea, eb, rfl⟩ := h4.shape
              refine wp_value2 (exec_build _ _ rfl (hat 5 80 (by omega) (by kernel_rfl) (by kernel_rfl)) (Try.build24 _ _ _ _ _ _ _ _ W)) (hK _ _ ⟨x, _, bs', bad', W.heap.size, rfl, rfl, cellsAt_new _ _ rfl, h1.size, by simp, h1.trans (Off.of_ext ((Ext.refl W).alloc _) _), h2.ext ((Ext.refl W).alloc _), h3, h4.alike (Alike.of_ext ((Ext.refl W).alloc _) fun b hb => hb.2)⟩)
            · obtain ⟨r1, bl, rfl⟩ := list2 hvl
              obtain ⟨x, cs, bs', bad', b, rfl, rfl, hcb, hb1, hb2, h1, h2, h3, h4⟩ := hRR
              have hIW : W.ownsRow W0.heap.size 27 8 I L.length xs := ownsRow_same HI.out fun b hb => h1.block b (HI.out.lt b hb).2 (by have := (HI.out.lt b hb).1; omega)
              refine wp_append_at (.tmp 76) (.tmp 81) 24 rfl W0.heap.size 27 iV (.agg zeroCells.toArray) 8 120 Try.underlying24 hiV hzV hsV hbV rfl (by decide) I L.length xs (hat 1 76 (by omega) (by kernel_rfl) (by kernel_rfl)) hIW b 0 1 1 cs (hat 6 81 (by omega) (by kernel_rfl) (by kernel_rfl)) h4.length hcb h4.one (by rw [maxLen_eq]; omega) (by omega) (Nat.le_trans HW0.out h1.size) fun v' w' hown hgr hbl => hK _ _ ⟨x, cs, bs', bad', b, hb1, Nat.le_trans (Nat.le_of_lt hb2) hgr.size, ?_, ?_, h3, ?_, hown, ?_⟩
              · exact (h1.mono fun b hb => .inl hb).trans (Off.of_grown hgr fun b e => .inr e)
              · exact h2.off (Off.of_grown (P := fun b => I.ownBlock = some b) hgr fun b e => e) (fun e => by have := (HI.out.lt _ e).1; omega) fun b' hb' e => by have := (HI.out.lt _ e).1; have := H.out.lim; omega
              · exact h4.alike fun b' hb' => hgr.block b' (by omega) fun e => by have := (HI.out.lt b' e.symm).2; omega
              · rintro b' hb'
                rcases hbl with hbl | hbl
                · exact .inl (hbl ▸ hb')
                · rw [hbl] at hb'; injection hb' with hb'; exact .inr (by omega)
          intro ys vs W hyl hvl hRR hys
          obtain ⟨r1, bl, R', rfl⟩ := list3 hvl
          obtain ⟨y0, y1, y2, y3, y4, y5, y6, y7, rfl⟩ := list8' hyl
          have h7 : y7 = R' := hys 7 (by omega)
          subst h7
          obtain ⟨x, cs, bs9, bad9, vx, hv1, hv2, h1, h2, h3, h4, hown, hob⟩ := hRR
          obtain ⟨E7, q7, rfl⟩ := own_shape hown
          have hO9 := (h1.block w1.heap.size (Blk_lt HOb.out) (by rintro (e | e); omega; have := (HI.out.lt _ e).1; omega)).trans HOb.out
          have HO9 := Lib.hid hO9
          have HH1 := Lib.hid h1
          have HH2 := Lib.hid h2
          have HH3 := Lib.hid h3
          have HH4 := Lib.hid h4
          have HOwn := Lib.hid hown
          have HOb2 := Lib.hid hob
          clear hys hyl hvl h1 h2 h3 h4 hown hob hO9
          simp only [List.take, List.drop, putAll]
          go_wp2_with (refine wpList_store_slice rfl 24 _ _ rfl w1.heap.size 6 rfl E7 _ q7 rfl Try.sizeSl 27 _ HO9.out (by simp [rdBox]) ?_)
          intro wy hOy hgy

          have hR2 := Rdg.push_item HOff.out hgW hOW HI.out HN.out HF.out HH1.out HOwn.out hv1 hv2 HOb2.out HH4.out hOy hgy
          have hRd2 := HH2.out.off (Off.of_grown (P := fun b => b = w1.heap.size) hgy fun b e => by injection e with e; exact e.symm) (by omega) (fun b hb e => by have := H.out.lim; omega)
          have hRl2 := ReadsL.set HRL.out rfl (by omega) HH3.out
          have HFin : Hid (∃ (L : List Val) (M : List ByteArray) (bsk : List UInt8) (badk : Bool), Rdg W0 g w1.heap.size 5 L M wy ∧ RdAt lim wy g bsk badk ∧ ReadsL false bs bad (m' + 1) L M n1 bsk badk ∧ L.length ≤ 65537 ∧ M.length ≤ 65537 ∧ (∀ s ∈ M, s.size ≤ 65536)) := Lib.hid ⟨_, _, _, _, hR2, hRd2, hRl2, by simp; omega, by omega, HMs.out⟩
          clear hR2 hRd2 hRl2 hOy hgy
          go_wp2_with fail
          go_roundw
          case rel => exact ⟨n1, by go_num, by omega, HFin⟩
          case measure => simp [intOf]
  · have hk6 : kd = 6 := by omega
    subst hk6
    obtain ⟨m', rfl⟩ : ∃ m', m = m' + 1 := ⟨m - 1, by omega⟩
    go_wp2_with fail
    refine (numberN_ok lim g 4 _ bs1 bad1 (HRd1.out.ext ((Ext.refl w1).alloc _)) (by omega)).mono ?_
    rintro e w2 ⟨hg2, n0, bs2, bad2, rfl, hrd2, hN2⟩
    have hW : GrownBy (w1.alloc (.cells [.int .i64 6, .bool false, .int .i64 0, .string ByteArray.empty, .string ByteArray.empty, .string ByteArray.empty, .slice none 0 0, .slice none 0 0].toArray 27)) w2 (some g) := hg2
    obtain ⟨W0, hW0⟩ : ∃ W, W = w1.alloc (.cells [.int .i64 6, .bool false, .int .i64 0, .string ByteArray.empty, .string ByteArray.empty, .string ByteArray.empty, .slice none 0 0, .slice none 0 0].toArray 27) := ⟨_, rfl⟩
    rw [← hW0] at hW
    have hOW : w1.heap.size < W0.heap.size := by rw [hW0]; simp
    have hxg : GrownBy w W0 (some g) := by rw [hW0]; exact HGw1.out.trans (GrownBy.of_ext _ ((Ext.refl w1).alloc _))
    have hR0 : W0.heap[w.heap.size]? = some (.cells zeroCells.toArray 27 (0, 0)) := by rw [hW0]; exact (Below.heap_alloc w1 _ _ hs1).trans HR1.out
    have hO2 : w2.heap[w1.heap.size]? = some (.cells (rdBox 6 (.slice none 0 0) (.slice none 0 0)) 27 (0, 0)) := (hW.block w1.heap.size hOW (fun e => by injection e with e; omega)).trans (by rw [hW0]; exact heap_alloc_new w1 _)
    have hrdg : Rdg W0 g w1.heap.size 6 [] [] w2 := ⟨Off.of_grown hW fun b e => by injection e with e; exact .inl e.symm, .slice none 0 0, .slice none 0 0, [], hO2, World.ownsRow_nil _ _ _ _, World.ownsRow_nil _ _ _ _, rfl⟩
    have hgW : g < W0.heap.size := by omega
    have hn0 : n0 < 4294967296 := by simpa using hN2.2.2.2.1
    have hrl : ReadsL true bs bad (m' + 1) [] [] n0 bs2 bad2 := ReadsL.start HN1.out hN2
    have HXg := Lib.hid hxg
    have HR0 := Lib.hid hR0
    have HRdg := Lib.hid hrdg
    have HRd2 := Lib.hid hrd2
    have HRl := Lib.hid hrl
    obtain ⟨iV, hiV, hzV, hsV, hbV⟩ := info_parts Try.info27
    obtain ⟨iS, hiS, hzS, hsS, hbS⟩ := info_parts Try.info9
    clear hg2 hW hW0 hxg hR0 hO2 hrdg hrd2 hrl hN2
    go_wp2_with fail
    go_loopw [6] (fun u6 wr => ∃ n : Nat, u6 = .int .u64 n ∧ n < 4294967296 ∧ Hid (∃ (L : List Val) (M : List ByteArray) (bsk : List UInt8) (badk : Bool), Rdg W0 g w1.heap.size 6 L M wr ∧ RdAt lim wr g bsk badk ∧ ReadsL true bs bad (m' + 1) L M n bsk badk ∧ L.length ≤ 65537 ∧ M.length ≤ 65537 ∧ (∀ s ∈ M, s.size ≤ 65536))) (fun u6 _ => (intOf u6).toNat)
    case atStart => exact ⟨n0, rfl, hn0, Lib.hid ⟨[], [], bs2, bad2, HRdg.out, HRd2.out, HRl.out, by simp, by simp, by simp⟩⟩
    case round =>
      obtain ⟨n, rfl, hn, HS⟩ := hrel
      obtain ⟨L, M, bsk, badk, hR, hRd, hRL, hL1, hM1, hMs⟩ := HS.out
      obtain ⟨Ak, ck, hhk⟩ := rdAt_heap hRd
      have f1 : wr.cell? ⟨g, 1, none⟩ = some (.bool badk) := by rw [cell_of_row _ _ _ _ _ _ hhk]; rfl
      clear hhk
      by_cases hn0 : n = 0
      · subst hn0
        obtain ⟨cc, hOc, hac⟩ := hR.fin (by constructor <;> omega) hL1 hM1 hMs
        obtain ⟨c0, c1, c2, c3, c4, c5, c6, c7, c8, c9, ca, cb, rfl⟩ := hac.shape
        have HO : Hid (CellsAt wr w1.heap.size 0 [.int .i64 c0, .bool c1, .int .i64 c2, .string c3, .string c4, .string c5, .slice c6 c7 c8, .slice c9 ca cb]) := Lib.hid fun j v hj => by rw [cell_of_row _ _ _ _ _ _ hOc, Nat.zero_add]; simpa using hj
        have HGr := Lib.hid (((Off.of_grown (P := fun b => b = g) HXg.out fun b e => by injection e with e; exact e.symm).fresh hR.off fun b hb => by rcases hb with hb | hb; exact .inl hb; exact .inr (by omega)).grown)
        have HRr : Hid (wr.heap[w.heap.size]? = some (.cells zeroCells.toArray 27 (0, 0))) := Lib.hid ((hR.off.block w.heap.size (by omega) (by omega)).trans HR0.out)
        have HRdr := Lib.hid hRd
        have HRL := Lib.hid hRL
        have HAc := Lib.hid hac
        have HOne := Lib.hid hac.one
        clear hOc hac hR hRd hRL hMs HS
        go_wp2_with (first | refine wpList_load_cells rfl 27 _ rfl w1.heap.size 0 rfl Try.agg27 Try.size27 rfl HO.out ?_ | (refine wpList_store_whole rfl 27 _ _ rfl w.heap.size rfl [.int .i64 c0, .bool c1, .int .i64 c2, .string c3, .string c4, .string c5, .slice c6 c7 c8, .slice c9 ca cb] rfl Try.size27 rfl 27 zeroCells.toArray HRr.out rfl HOne.out ?_; intro wz hwz))
        have hgz : GrownBy wr wz (some w.heap.size) := by rw [hwz]; exact GrownBy.setRow _ _ _
        have hcz : CellsAt wz w.heap.size 0 [.int .i64 c0, .bool c1, .int .i64 c2, .string c3, .string c4, .string c5, .slice c6 c7 c8, .slice c9 ca cb] := by rw [hwz]; exact cellsAt_setRow HRr.out rfl
        refine bodyPost_ret (v := .agg [.int .i64 c0, .bool c1, .int .i64 c2, .string c3, .string c4, .string c5, .slice c6 c7 c8, .slice c9 ca cb].toArray) (results_one (cs := [.int .i64 c0, .bool c1, .int .i64 c2, .string c3, .string c4, .string c5, .slice c6 c7 c8, .slice c9 ca cb]) Try.results60 rfl Try.agg27 Try.size27 rfl hcz) rfl ⟨HGr.out.fresh hgz (.inr (Nat.le_refl _)), .mk 6 false 0 empty empty empty L M, [.int .i64 c0, .bool c1, .int .i64 c2, .string c3, .string c4, .string c5, .slice c6 c7 c8, .slice c9 ca cb], _, _, rfl, (HAc.out.alike (w' := wz) fun b hb => hgz.block b hb.2 (fun e => by injection e with e; have := hb.1; omega)).mono fun b hb => ⟨by have := hb.1; omega, Nat.lt_of_lt_of_le hb.2 hgz.size⟩, HRdr.out.same hgz.size (hgz.block g HRdr.out.lt (fun e => by injection e with e; omega)) (fun b hb _ => hgz.block b (Nat.lt_of_lt_of_le hb HRdr.out.lim) (fun e => by injection e with e; have := H.out.lim; omega)), ReadsL.done (rc := true) HN1.out HRL.out (.inl rfl)⟩
      · cases badk with
        | true =>
          have t1 : decide (0 < n) = true := by simp; omega
          obtain ⟨cc, hOc, hac⟩ := hR.fin (by constructor <;> omega) hL1 hM1 hMs
          obtain ⟨c0, c1, c2, c3, c4, c5, c6, c7, c8, c9, ca, cb, rfl⟩ := hac.shape
          have HO : Hid (CellsAt wr w1.heap.size 0 [.int .i64 c0, .bool c1, .int .i64 c2, .string c3, .string c4, .string c5, .slice c6 c7 c8, .slice c9 ca cb]) := Lib.hid fun j v hj => by rw [cell_of_row _ _ _ _ _ _ hOc, Nat.zero_add]; simpa using hj
          have HGr := Lib.hid (((Off.of_grown (P := fun b => b = g) HXg.out fun b e => by injection e with e; exact e.symm).fresh hR.off fun b hb => by rcases hb with hb | hb; exact .inl hb; exact .inr (by omega)).grown)
          have HRr : Hid (wr.heap[w.heap.size]? = some (.cells zeroCells.toArray 27 (0, 0))) := Lib.hid ((hR.off.block w.heap.size (by omega) (by omega)).trans HR0.out)
          have HRdr := Lib.hid hRd
          have HRL := Lib.hid hRL
          have HAc := Lib.hid hac
          have HOne := Lib.hid hac.one
          clear hOc hac hR hRd hRL hMs HS
          go_wp2_with (first | refine wpList_load_cells rfl 27 _ rfl w1.heap.size 0 rfl Try.agg27 Try.size27 rfl HO.out ?_ | (refine wpList_store_whole rfl 27 _ _ rfl w.heap.size rfl [.int .i64 c0, .bool c1, .int .i64 c2, .string c3, .string c4, .string c5, .slice c6 c7 c8, .slice c9 ca cb] rfl Try.size27 rfl 27 zeroCells.toArray HRr.out rfl HOne.out ?_; intro wz hwz))
          have hgz : GrownBy wr wz (some w.heap.size) := by rw [hwz]; exact GrownBy.setRow _ _ _
          have hcz : CellsAt wz w.heap.size 0 [.int .i64 c0, .bool c1, .int .i64 c2, .string c3, .string c4, .string c5, .slice c6 c7 c8, .slice c9 ca cb] := by rw [hwz]; exact cellsAt_setRow HRr.out rfl
          refine bodyPost_ret (v := .agg [.int .i64 c0, .bool c1, .int .i64 c2, .string c3, .string c4, .string c5, .slice c6 c7 c8, .slice c9 ca cb].toArray) (results_one (cs := [.int .i64 c0, .bool c1, .int .i64 c2, .string c3, .string c4, .string c5, .slice c6 c7 c8, .slice c9 ca cb]) Try.results60 rfl Try.agg27 Try.size27 rfl hcz) rfl ⟨HGr.out.fresh hgz (.inr (Nat.le_refl _)), .mk 6 false 0 empty empty empty L M, [.int .i64 c0, .bool c1, .int .i64 c2, .string c3, .string c4, .string c5, .slice c6 c7 c8, .slice c9 ca cb], _, _, rfl, (HAc.out.alike (w' := wz) fun b hb => hgz.block b hb.2 (fun e => by injection e with e; have := hb.1; omega)).mono fun b hb => ⟨by have := hb.1; omega, Nat.lt_of_lt_of_le hb.2 hgz.size⟩, HRdr.out.same hgz.size (hgz.block g HRdr.out.lt (fun e => by injection e with e; omega)) (fun b hb _ => hgz.block b (Nat.lt_of_lt_of_le hb HRdr.out.lim) (fun e => by injection e with e; have := H.out.lim; omega)), ReadsL.done (rc := true) HN1.out HRL.out (.inr rfl)⟩
        | false =>
          have t1 : decide (0 < n) = true := by simp; omega
          have hlen := hRL.2.2.1 rfl
          have hLm := Val.masses_length L
          have hMm := nameSum_length M
          have hlk : bsk.length ≤ 65536 := by have := hRL.2.1; omega
          have hL2 : L.length ≤ 65536 := by omega
          have hM2 : M.length ≤ 65536 := by omega
          obtain ⟨I, N, xs, hO, hI, hN, hf⟩ := hR.rows
          have f2 : wr.cell? ⟨w1.heap.size, 0, none⟩ = some (.int .i64 6) := by rw [cell_of_row _ _ _ _ _ _ hO]; rfl
          have hw0 : W0.heap.size ≤ wr.heap.size := hR.off.size
          obtain ⟨n1, rfl⟩ : ∃ n1, n = n1 + 1 := ⟨n - 1, by omega⟩
          have HRL := Lib.hid hRL
          have HOff := Lib.hid hR.off
          have HMs := Lib.hid hMs
          clear hlen hLm hMm hL1 hM1 HS
          have HOb := Lib.hid hO
          have HI := Lib.hid hI
          have HN := Lib.hid hN
          have HF := Lib.hid hf
          have HRdk := Lib.hid hRd
          have HLk := Lib.hid hlk
          have HW0 := Lib.hid hw0
          clear hO hI hN hf hRd hlk hw0 hR hRL hMs
          go_wp2_with fail
          clear f1 f2
          refine staged_region 6 [3, 4, 5] [.pointer (some ⟨w1.heap.size, 7, none⟩), N, .pointer (some ⟨g, 0, none⟩), undef, undef, undef] (RtextR wr lim g W0.heap.size M.length N (M.map Value.string) bsk false) (by kernel_rfl) (by kernel_rfl) (by kernel_rfl) (by kernel_rfl)
            ⟨⟨rfl, rfl, rfl, Nat.le_refl _, fun _ _ => rfl⟩, Nat.le_succ _⟩ (fun i op hi hn ho vs W a hRR hold hat => ?_) (fun k i op hk ho vs W a hvl hRR hold hat Q' K hK => ?_) ?_
          · have hp := hRR.off
            have hblk : ∀ j, W.cell? ⟨w1.heap.size, j, none⟩ = wr.cell? ⟨w1.heap.size, j, none⟩ := fun j => World.cell?_of_block (a := ⟨w1.heap.size, j, none⟩) (hp.block w1.heap.size (Blk_lt HOb.out) (by rintro (e | e); omega; have := (HN.out.lt _ e).1; omega))
            rcases (by simp at hn; omega : i = 0 ∨ i = 1 ∨ i = 2) with rfl | rfl | rfl <;> obtain rfl := Option.some.inj ho
            · exact exec_field _ _ _ rfl (hold 5 (by kernel_rfl)) (Try.field27 w1.heap.size).1
            · exact exec_load_one _ _ rfl w1.heap.size 7 (hat 0 68 (by omega) (by kernel_rfl) (by kernel_rfl)) Try.agg25 ((hblk 7).trans (by rw [cell_of_row _ _ _ _ _ _ HOb.out]; rfl))
            · exact exec_move rfl (hold 0 (by kernel_rfl))
          · have hk4 : k < 3 := by simpa using (List.getElem?_eq_some_iff.1 hk).1
            rcases (by omega : k = 0 ∨ k = 1 ∨ k = 2) with rfl | rfl | rfl <;> obtain rfl := Option.some.inj hk <;> obtain rfl := Option.some.inj ho
            · obtain rfl := List.eq_nil_of_length_eq_zero hvl
              have hRR : Ext wr W := hRR
              refine wp_enter2 (Φ := fun v w' => RtextR wr lim g W0.heap.size M.length N (M.map Value.string) bsk false [v] w') (exec_call Try.func88 rfl rfl rfl (map_one (hat 2 70 (by omega) (by kernel_rfl) (by kernel_rfl)))) ?_ hK
              refine (textT_ok lim g W bsk false (HRdk.out.ext hRR) HLk.out).mono ?_
              rintro e w' ⟨hg', s, bs', bad', rfl, hrd', hrs⟩
              exact ⟨_, rfl, s, bs', bad', rfl, (Off.of_ext hRR _).trans (Off.of_grown hg' fun b e => by injection e with e; exact e.symm), hrd', hrs⟩
            · obtain ⟨r1, rfl⟩ := list1 hvl
              obtain ⟨s, bs', bad', rfl, h1, h2, h3⟩ := hRR
              refine wp_value2 (exec_build _ _ rfl (hat 3 71 (by omega) (by kernel_rfl) (by kernel_rfl)) (Try.build25 s W)) (hK _ _ ⟨s, bs', bad', W.heap.size, rfl, rfl, cellsAt_new _ _ rfl, h1.size, by simp, h1.trans (Off.of_ext ((Ext.refl W).alloc _) _), h2.ext ((Ext.refl W).alloc _), h3⟩)
            · obtain ⟨r1, bl, rfl⟩ := list2 hvl
              obtain ⟨s, bs', bad', b, rfl, rfl, hcb, hb1, hb2, h1, h2, h3⟩ := hRR
              have hNW : W.ownsRow W0.heap.size 9 1 N M.length (M.map Value.string) := ownsRow_same HN.out fun b hb => h1.block b (HN.out.lt b hb).2 (by have := (HN.out.lt b hb).1; omega)
              refine wp_append_at (.tmp 69) (.tmp 72) 25 rfl W0.heap.size 9 iS (.string ByteArray.empty) 1 16 Try.underlying25 hiS hzS hsS hbS rfl (by decide) N M.length (M.map Value.string) (hat 1 69 (by omega) (by kernel_rfl) (by kernel_rfl)) hNW b 0 1 1 [.string s] (hat 4 72 (by omega) (by kernel_rfl) (by kernel_rfl)) rfl hcb (by intro u hu; simp at hu; subst hu; rfl) (by rw [maxLen_eq]; omega) (by omega) (Nat.le_trans HW0.out h1.size) fun v' w' hown hgr hbl => hK _ _ ⟨s, bs', bad', ?_, ?_, h3, hown, ?_⟩
              · exact (h1.mono fun b hb => .inl hb).trans (Off.of_grown hgr fun b e => .inr e)
              · exact h2.off (Off.of_grown (P := fun b => N.ownBlock = some b) hgr fun b e => e) (fun e => by have := (HN.out.lt _ e).1; omega) fun b' hb' e => by have := (HN.out.lt _ e).1; have := H.out.lim; omega
              · rintro b' hb'
                rcases hbl with hbl | hbl
                · exact .inl (hbl ▸ hb')
                · rw [hbl] at hb'; injection hb' with hb'; exact .inr (by have := h1.size; omega)
          intro ys vs W hyl hvl hRR hys
          obtain ⟨r1, bl, R', rfl⟩ := list3 hvl
          obtain ⟨y0, y1, y2, y3, y4, y5, rfl⟩ := list6 hyl
          have h5 : y5 = R' := hys 5 (by omega)
          subst h5
          obtain ⟨s, bs5, bad5, h1, h2, h3, hown, hob⟩ := hRR
          obtain ⟨E7, q7, rfl⟩ := own_shape hown
          have hO9 := (h1.block w1.heap.size (Blk_lt HOb.out) (by rintro (e | e); omega; have := (HN.out.lt _ e).1; omega)).trans HOb.out
          have HO9 := Lib.hid hO9
          have HH1 := Lib.hid h1
          have HH2 := Lib.hid h2
          have HH3t := Lib.hid h3
          have HOwn := Lib.hid hown
          have HOb2 := Lib.hid hob
          clear hys hyl hvl h1 h2 h3 hown hob hO9
          simp only [List.take, List.drop, putAll]
          go_wp2_with (refine wpList_store_slice rfl 25 _ _ rfl w1.heap.size 7 rfl E7 _ q7 rfl Try.sizeSs 27 _ HO9.out (by simp [rdBox]) ?_)
          intro wx hOx hgx
          have hR2 := Rdg.push_name HOff.out hgW hOW HI.out HN.out HF.out HH1.out HOwn.out HOb2.out hOx hgx
          have hRd2 := HH2.out.off (Off.of_grown (P := fun b => b = w1.heap.size) hgx fun b e => by injection e with e; exact e.symm) (by omega) (fun b hb e => by have := H.out.lim; omega)
          have hlx : bs5.length ≤ 65536 := by have := HH3t.out.2.1; have := HLk.out; omega
          have hss : s.size ≤ 65536 := by have := HH3t.out.2.2.1; have := HLk.out; omega
          have hMs2 : ∀ t ∈ M ++ [s], t.size ≤ 65536 := fun t ht => by
            rcases List.mem_append.1 ht with h | h
            · exact HMs.out t h
            · simp at h; subst h; exact hss
          clear hOx hgx HOb HI HN HF HRdk HLk HW0 HO9 HH1 HH2 HOwn HOb2 HOff HMs hss I N xs
          obtain ⟨I, N, xs, hO, hI, hN, hf⟩ := hR2.rows
          have HOff := Lib.hid hR2.off
          have HOb := Lib.hid hO
          have HI := Lib.hid hI
          have HN := Lib.hid hN
          have HF := Lib.hid hf
          have HRdk := Lib.hid hRd2
          have HLk := Lib.hid hlx
          have HW0 := Lib.hid hR2.off.size
          have HMs := Lib.hid hMs2
          clear hO hI hN hf hR2 hRd2 hlx hMs2
          go_wp2_with fail
          refine staged_region 8 [5, 6, 7] [.pointer (some ⟨w1.heap.size, 6, none⟩), I, .pointer (some ⟨g, 0, none⟩), .int .i64 deep, .int .i64 ((deep + 1 : Nat) : Int), undef, undef, undef] (RvalR wx lim g W0.heap.size L.length m' I xs bs5 bad5) (by kernel_rfl) (by kernel_rfl) (by kernel_rfl) (by kernel_rfl)
            ⟨⟨rfl, rfl, rfl, Nat.le_refl _, fun _ _ => rfl⟩, Nat.le_succ _⟩ (fun i op hi hn ho vs W a hRR hold hat => ?_) (fun k i op hk ho vs W a hvl hRR hold hat Q' K hK => ?_) ?_
          · have hp := hRR.off
            have hblk : ∀ j, W.cell? ⟨w1.heap.size, j, none⟩ = wx.cell? ⟨w1.heap.size, j, none⟩ := fun j => World.cell?_of_block (a := ⟨w1.heap.size, j, none⟩) (hp.block w1.heap.size (Blk_lt HOb.out) (by rintro (e | e); omega; have := (HI.out.lt _ e).1; omega))
            rcases (by simp at hn; omega : i = 0 ∨ i = 1 ∨ i = 2 ∨ i = 3 ∨ i = 4) with rfl | rfl | rfl | rfl | rfl <;> obtain rfl := Option.some.inj ho
            · exact exec_field _ _ _ rfl (hold 5 (by kernel_rfl)) (Try.field27 w1.heap.size).2.1
            · exact exec_load_one _ _ rfl w1.heap.size 6 (hat 0 75 (by omega) (by kernel_rfl) (by kernel_rfl)) Try.agg24 ((hblk 6).trans (by rw [cell_of_row _ _ _ _ _ _ HOb.out]; rfl))
            · exact exec_move rfl (hold 0 (by kernel_rfl))
            · exact exec_move rfl (hold 1 (by kernel_rfl))
            · exact exec_addone rfl (hat 3 78 (by omega) (by kernel_rfl) (by kernel_rfl)) (by omega)
          · have hk4 : k < 3 := by simpa using (List.getElem?_eq_some_iff.1 hk).1
            rcases (by omega : k = 0 ∨ k = 1 ∨ k = 2) with rfl | rfl | rfl <;> obtain rfl := Option.some.inj hk <;> obtain rfl := Option.some.inj ho
            · obtain rfl := List.eq_nil_of_length_eq_zero hvl
              have hRR : Ext wx W := hRR
              refine wp_enter2 (Φ := fun v w' => RvalR wx lim g W0.heap.size L.length m' I xs bs5 bad5 [v] w') (exec_call Try.func60 rfl rfl rfl (map_two (hat 2 77 (by omega) (by kernel_rfl) (by kernel_rfl)) (hat 4 79 (by omega) (by kernel_rfl) (by kernel_rfl)))) ?_ hK
              refine (IH.out m' rfl (deep + 1) (by omega) lim g W _ _ (HRdk.out.ext hRR) HLk.out (HRdk.out.ext hRR).lt).mono ?_
              rintro e w' ⟨hg', x, cs, bs', bad', rfl, hx, hrd', hrs⟩
              exact ⟨_, rfl, x, cs, bs', bad', rfl, (Off.of_ext hRR _).trans (Off.of_grown hg' fun b e => by injection e with e; exact e.symm), hrd', hrs, hx.mono fun b hb => ⟨Nat.le_trans hRR.size hb.1, hb.2⟩⟩
            · obtain ⟨r1, rfl⟩ := list1 hvl
              obtain ⟨x, cs, bs', bad', rfl, h1, h2, h3, h4⟩ := hRR
              obtain ⟨e0, e1, e2, e3, e4, e5, e6, e7, e8, e9, ea, eb, rfl⟩ := h4.shape
              refine wp_value2 (exec_build _ _ rfl (hat 5 80 (by omega) (by kernel_rfl) (by kernel_rfl)) (Try.build24 _ _ _ _ _ _ _ _ W)) (hK _ _ ⟨x, _, bs', bad', W.heap.size, rfl, rfl, cellsAt_new _ _ rfl, h1.size, by simp, h1.trans (Off.of_ext ((Ext.refl W).alloc _) _), h2.ext ((Ext.refl W).alloc _), h3, h4.alike (Alike.of_ext ((Ext.refl W).alloc _) fun b hb => hb.2)⟩)
            · obtain ⟨r1, bl, rfl⟩ := list2 hvl
              obtain ⟨x, cs, bs', bad', b, rfl, rfl, hcb, hb1, hb2, h1, h2, h3, h4⟩ := hRR
              have hIW : W.ownsRow W0.heap.size 27 8 I L.length xs := ownsRow_same HI.out fun b hb => h1.block b (HI.out.lt b hb).2 (by have := (HI.out.lt b hb).1; omega)
              refine wp_append_at (.tmp 76) (.tmp 81) 24 rfl W0.heap.size 27 iV (.agg zeroCells.toArray) 8 120 Try.underlying24 hiV hzV hsV hbV rfl (by decide) I L.length xs (hat 1 76 (by omega) (by kernel_rfl) (by kernel_rfl)) hIW b 0 1 1 cs (hat 6 81 (by omega) (by kernel_rfl) (by kernel_rfl)) h4.length hcb h4.one (by rw [maxLen_eq]; omega) (by omega) (Nat.le_trans HW0.out h1.size) fun v' w' hown hgr hbl => hK _ _ ⟨x, cs, bs', bad', b, hb1, Nat.le_trans (Nat.le_of_lt hb2) hgr.size, ?_, ?_, h3, ?_, hown, ?_⟩
              · exact (h1.mono fun b hb => .inl hb).trans (Off.of_grown hgr fun b e => .inr e)
              · exact h2.off (Off.of_grown (P := fun b => I.ownBlock = some b) hgr fun b e => e) (fun e => by have := (HI.out.lt _ e).1; omega) fun b' hb' e => by have := (HI.out.lt _ e).1; have := H.out.lim; omega
              · exact h4.alike fun b' hb' => hgr.block b' (by omega) fun e => by have := (HI.out.lt b' e.symm).2; omega
              · rintro b' hb'
                rcases hbl with hbl | hbl
                · exact .inl (hbl ▸ hb')
                · rw [hbl] at hb'; injection hb' with hb'; exact .inr (by omega)
          intro ys vs W hyl hvl hRR hys
          obtain ⟨r1, bl, R', rfl⟩ := list3 hvl
          obtain ⟨y0, y1, y2, y3, y4, y5, y6, y7, rfl⟩ := list8' hyl
          have h7 : y7 = R' := hys 7 (by omega)
          subst h7
          obtain ⟨x, cs, bs9, bad9, vx, hv1, hv2, h1, h2, h3, h4, hown, hob⟩ := hRR
          obtain ⟨E7, q7, rfl⟩ := own_shape hown
          have hO9 := (h1.block w1.heap.size (Blk_lt HOb.out) (by rintro (e | e); omega; have := (HI.out.lt _ e).1; omega)).trans HOb.out
          have HO9 := Lib.hid hO9
          have HH1 := Lib.hid h1
          have HH2 := Lib.hid h2
          have HH3 := Lib.hid h3
          have HH4 := Lib.hid h4
          have HOwn := Lib.hid hown
          have HOb2 := Lib.hid hob
          clear hys hyl hvl h1 h2 h3 h4 hown hob hO9
          simp only [List.take, List.drop, putAll]
          go_wp2_with (refine wpList_store_slice rfl 24 _ _ rfl w1.heap.size 6 rfl E7 _ q7 rfl Try.sizeSl 27 _ HO9.out (by simp [rdBox]) ?_)
          intro wy hOy hgy

          have hR2 := Rdg.push_item HOff.out hgW hOW HI.out HN.out HF.out HH1.out HOwn.out hv1 hv2 HOb2.out HH4.out hOy hgy
          have hRd2 := HH2.out.off (Off.of_grown (P := fun b => b = w1.heap.size) hgy fun b e => by injection e with e; exact e.symm) (by omega) (fun b hb e => by have := H.out.lim; omega)
          have hRl2 := ReadsL.field HRL.out rfl (by omega) HH3t.out HH3.out
          have HFin : Hid (∃ (L : List Val) (M : List ByteArray) (bsk : List UInt8) (badk : Bool), Rdg W0 g w1.heap.size 6 L M wy ∧ RdAt lim wy g bsk badk ∧ ReadsL true bs bad (m' + 1) L M n1 bsk badk ∧ L.length ≤ 65537 ∧ M.length ≤ 65537 ∧ (∀ s ∈ M, s.size ≤ 65536)) := Lib.hid ⟨_, _, _, _, hR2, hRd2, hRl2, by simp; omega, by simp; omega, HMs.out⟩
          clear hR2 hRd2 hRl2 hOy hgy
          go_wp2_with fail
          go_roundw
          case rel => exact ⟨n1, by go_num, by omega, HFin⟩
          case measure => simp [intOf]

theorem value_okP : ∀ m, ValueOk m
  | 0 => value_step 0 fun m' e => by omega
  | m + 1 => value_step (m + 1) fun m' e => by
    have : m' = m := by omega
    subst this
    exact value_okP m'
end Go.Proofs.Ytpkgkabcikmopaa
