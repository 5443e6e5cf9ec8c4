/-
  The walks of layer 3's laws ValueCanons and ValueFinds: both answer true. The conditions: the arguments are values that lie in old memory.
-/
import Derived.Test.YtpkgkabcikmopaaAwake3
import Derived.Test.YtpkgkabcikmopaaWhole
namespace Go.Proofs.Ytpkgkabcikmopaa
open Go.RowKit

theorem cells8 {w : World} {g : Nat} {v0 v1 v2 v3 v4 v5 v6 v7 : Value} (h : CellsAt w g 0 [v0, v1, v2, v3, v4, v5, v6, v7]) : w.cell? ⟨g, 0, none⟩ = some v0 ∧ w.cell? ⟨g, 1, none⟩ = some v1 ∧ w.cell? ⟨g, 2, none⟩ = some v2 ∧ w.cell? ⟨g, 3, none⟩ = some v3 ∧
    w.cell? ⟨g, 4, none⟩ = some v4 ∧ w.cell? ⟨g, 5, none⟩ = some v5 ∧ w.cell? ⟨g, 6, none⟩ = some v6 ∧ w.cell? ⟨g, 7, none⟩ = some v7 :=
  ⟨h 0 _ rfl, by simpa using h 1 _ rfl, by simpa using h 2 _ rfl, by simpa using h 3 _ rfl, by simpa using h 4 _ rfl, by simpa using h 5 _ rfl, by simpa using h 6 _ rfl, by simpa using h 7 _ rfl⟩
theorem eqB_same {α : Type} (a : α) : eqB a a = true := eqB_true.2 rfl

set_option maxRecDepth 100000 in
set_option maxHeartbeats 800000 in
theorem valueCanons_walk (v : Val) (S : Nat → Prop) (w : World) (cs : List Value) (hS : ∀ b, S b → b < w.heap.size) (ha : Val.At S w v cs) :
    Calls Try.prog 3 #[.agg cs.toArray] w fun e w' => e = .returned (.bool true) ∧ Ext w w' := by
  obtain ⟨k1, b1, n1, t1, ut1, ui1, A1, l1, c1, A2, l2, c2, rfl⟩ := ha.shape
  have HS := Lib.hid hS
  have Ha := Lib.hid ha
  clear hS ha
  go_enter Try.func3, Try.ntmps3
  go_wp2_with fail
  refine (awake3_ok _).mono ?_
  rintro e w1 ⟨rfl, hx1⟩
  have hbx := (cellsAt_new (w := w) 27 [.int .i64 k1, .bool b1, .int .i64 n1, .string t1, .string ut1, .string ui1, .slice A1 l1 c1, .slice A2 l2 c2] rfl).alike (S := fun b => b = w.heap.size) rfl (Alike.of_ext hx1 fun b hb => by rw [hb]; simp)
  have hbl : w.heap.size < w1.heap.size := Nat.lt_of_lt_of_le (by simp) hx1.size
  have HX1 := Lib.hid (((Ext.refl w).alloc _).trans hx1)
  have HBx : Hid (∀ W, Ext w1 W → CellsAt W w.heap.size 0 [.int .i64 k1, .bool b1, .int .i64 n1, .string t1, .string ut1, .string ui1, .slice A1 l1 c1, .slice A2 l2 c2]) := Lib.hid fun W hW => hbx.alike (S := fun b => b = w.heap.size) rfl (Alike.of_ext hW fun b hb => by rw [hb]; exact hbl)
  have HV : Hid (∀ W, Ext w1 W → (∀ b, S b → b < W.heap.size) ∧ Val.At S W v [.int .i64 k1, .bool b1, .int .i64 n1, .string t1, .string ut1, .string ui1, .slice A1 l1 c1, .slice A2 l2 c2]) := Lib.hid fun W hW =>
    ⟨fun b hb => Nat.lt_of_lt_of_le (HS.out b hb) (HX1.out.trans hW).size, Ha.out.alike (Alike.of_ext (HX1.out.trans hW) HS.out)⟩
  clear hx1 hbx hbl
  go_wp2_with (refine wpList_load_cells rfl 27 (.tmp 1) rfl w.heap.size 0 rfl Try.agg27 Try.size27 rfl (HBx.out _ (Ext.refl _)) ?_)
  refine (few_ok03 _ v 0 S _ [_, _, _, _, _, _, _, _] (Nat.le_refl _) (by omega) (by omega) (HV.out _ (Ext.refl _)).1 (HV.out _ (Ext.refl _)).2).mono ?_
  rintro e w2 ⟨rfl, hx2⟩
  have HX2 := Lib.hid hx2
  clear hx2
  have Hfw := Lib.hid (show v.few 0 = true → v.dep ≤ 62 from Val.dep_le)
  generalize v.few 0 = fw at *
  cases fw
  · go_wp2_with fail
    go_ret
    exact ⟨rfl, HX1.out.trans HX2.out⟩
  have hdep := Hfw.out rfl
  have Hdep := Lib.hid (show v.dep ≤ 1000000 by omega)
  clear hdep Hfw
  obtain ⟨d0, d1, d2, d3, d4, d5, d6, d7⟩ := cells8 (HBx.out _ HX2.out)
  go_wp2_with fail
  clear d0 d1 d2 d3 d4 d5 d6 d7
  refine (size_ok03 _ v S _ [_, _, _, _, _, _, _, _] (Nat.le_refl _) (HV.out _ HX2.out).1 (HV.out _ HX2.out).2).mono ?_
  rintro e w3 ⟨sz, _, rfl, hx3⟩
  have HX3 := Lib.hid (HX2.out.trans hx3)
  clear hx3 HX2
  by_cases hsz : 500 < sz
  · have t0 : decide (500 < sz) = true := by simpa using hsz
    clear hsz
    go_wp2_with fail
    go_ret
    exact ⟨rfl, HX1.out.trans HX3.out⟩
  have t0 : decide (500 < sz) = false := by simpa using hsz
  clear hsz
  go_wp2_with (refine wpList_load_cells rfl 27 (.tmp 1) rfl w.heap.size 0 rfl Try.agg27 Try.size27 rfl (HBx.out _ HX3.out) ?_)
  clear t0
  refine (canon_okP v S _ [_, _, _, _, _, _, _, _] Hdep.out (HV.out _ HX3.out).1 (HV.out _ HX3.out).2).mono ?_
  rintro e w4 ⟨ca, rfl, hat, hx4⟩
  obtain ⟨k3, b3, n3, t3, ut3, ui3, A3, l3, c3, A4, l4, c4, rfl⟩ := hat.shape
  have Hat := Lib.hid hat
  have HX4 := Lib.hid (HX3.out.trans hx4)
  clear hat hx4 HX3
  go_wp2_with (refine wpList_load_cells rfl 27 (.tmp 1) rfl w.heap.size 0 rfl Try.agg27 Try.size27 rfl (HBx.out _ (HX4.out.alloc _)) ?_)
  refine (canon_okR v S _ [_, _, _, _, _, _, _, _] Hdep.out (HV.out _ (HX4.out.alloc _)).1 (HV.out _ (HX4.out.alloc _)).2).mono ?_
  rintro e w5 ⟨cb, rfl, hbt, hx5⟩
  obtain ⟨k5, b5, n5, t5, ut5, ui5, A5, l5, c5, A6, l6, c6, rfl⟩ := hbt.shape
  have hba := (cellsAt_new (w := w4) 27 [.int .i64 k3, .bool b3, .int .i64 n3, .string t3, .string ut3, .string ui3, .slice A3 l3 c3, .slice A4 l4 c4] rfl).alike (S := fun b => b = w4.heap.size) rfl (Alike.of_ext hx5 fun b hb => by rw [hb]; simp)
  have Hba := Lib.hid (hba.alloc (Nat.lt_of_lt_of_le (by simp) hx5.size) (.cells #[.int .i64 k5, .bool b5, .int .i64 n5, .string t5, .string ut5, .string ui5, .slice A5 l5 c5, .slice A6 l6 c6] 27))
  have hat' := Hat.out.alike (w' := w5) (Alike.of_ext (((Ext.refl w4).alloc _).trans hx5) fun b hb => hb.2)
  have Hat' := Lib.hid hat'
  have Hbt := Lib.hid hbt
  have HX5 := Lib.hid hx5
  have HX6 := Lib.hid ((HX4.out.alloc _).trans hx5)
  clear hat' hbt hx5 hba
  have e0 : (v.canon.2 == v.canon.2) = true := by simp
  obtain ⟨d0, d1, d2, d3, d4, d5, d6, d7⟩ := cells8 Hba.out
  go_wp2_with fail
  clear d0 d1 d2 d3 d4 d5 d6 d7
  refine (whole_ok _ v.canon.1 v.canon.1 (fun b => b < w5.heap.size) _ [_, _, _, _, _, _, _, _] [_, _, _, _, _, _, _, _] (Nat.le_refl _) (fun b hb => Nat.lt_of_lt_of_le hb ((Ext.refl w5).alloc _).size) ((Hat'.out.mono fun b hb => Nat.lt_of_lt_of_le hb.2 (((Ext.refl w4).alloc _).trans HX5.out).size).alike (Alike.of_ext ((Ext.refl w5).alloc _) fun _ h => h)) ((Hbt.out.mono fun b hb => hb.2).alike (Alike.of_ext ((Ext.refl w5).alloc _) fun _ h => h))).mono ?_
  rintro e w7 ⟨rfl, hx7⟩
  rw [eqB_same]
  have HX7 := Lib.hid hx7
  clear hx7
  go_wp2_with fail
  go_ret
  exact ⟨rfl, HX1.out.trans ((HX6.out.alloc _).trans HX7.out)⟩
end Go.Proofs.Ytpkgkabcikmopaa
