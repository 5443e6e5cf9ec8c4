/-
  What the law package's num and awake of layer 3 come to: awake answers true. The conditions: none.
-/
import Derived.Test.YtpkgkabcikmopaaCanon
namespace Go.Proofs.Ytpkgkabcikmopaa
open Go.RowKit

def Val.numV (n : Int) : Val := .mk 2 false n empty empty empty [] []
def numC (n : Int) : List Value := [.int .i64 2, .bool false, .int .i64 n, .string ByteArray.empty, .string ByteArray.empty, .string ByteArray.empty, .slice none 0 0, .slice none 0 0]
theorem Val.num_at (S : Nat → Prop) (w : World) (n : Int) (hn : I64 n) : Val.At S w (Val.numV n) (numC n) := Val.plain_at S w 2 false n empty empty empty (by constructor <;> omega) hn empty_le empty_le empty_le

/-- a slice over cells that stand for values -/
theorem vals_at_flat {S : Nat → Prop} {w : World} {l : List Val} {xs : List Value} {b o cap : Nat} (hb : S b) (hc : CellsAt w b o xs) (hf : Flat S w l xs) (hl : l.length ≤ LIM) (h1 : l.length ≤ cap) (h2 : cap ≤ maxLen) : ValsAt S w l (.slice (some ⟨b, o, none⟩) l.length cap) :=
  ⟨_, cap, rfl, ⟨hl, h1, h2⟩, fun _ => ⟨b, o, rfl, hb, Val.RowAt.mk fun i x hx => by
    obtain ⟨cs, h1, h2, h3⟩ := hf.get hx
    exact ⟨cs, h1, fun j v hj => by rw [Nat.add_assoc]; exact hc _ _ (h3 j v hj), h2⟩⟩⟩
theorem Val.rec_at {S : Nat → Prop} {w : World} {l : List Val} {names : List ByteArray} {v nv : Value} (h : ValsAt S w l v) (hn : StrsAt S w names nv) : Val.At S w (.mk 6 false 0 empty empty empty l names) [.int .i64 6, .bool false, .int .i64 0, .string ByteArray.empty, .string ByteArray.empty, .string ByteArray.empty, v, nv] := by
  obtain ⟨A, cap, rfl, h3, h4⟩ := h
  have h0 : empty.size ≤ maxLen := by rw [maxLen_eq]; decide
  unfold Val.At
  exact ⟨A, cap, _, rfl, ⟨⟨by omega, by omega⟩, ⟨by omega, by omega⟩, h0, h0, h0⟩, h3, h4, hn⟩

theorem num_ok (n : Int) (w : World) : Calls Try.prog 28 #[.int .i64 n] w fun e w' => e = .returned (.agg #[.int .i64 2, .bool false, .int .i64 n, .string ByteArray.empty, .string ByteArray.empty, .string ByteArray.empty, .slice none 0 0, .slice none 0 0]) ∧ Ext w w' := by
  go_enter Try.func28, Try.ntmps28
  go_wp2
  exact bodyPost_ret (v := .agg (numC n).toArray) (results_one (cs := numC n) Try.results28 rfl Try.agg27 Try.size27 rfl (cellsAt_new _ _ (by simp))) rfl ⟨rfl, (Ext.refl w).alloc _⟩
theorem awake3_can : (Val.mk 5 false 0 empty empty empty [Val.numV 2, Val.numV 1, Val.numV 2] []).canon = (.mk 5 false 0 empty empty empty [Val.numV 1, Val.numV 2] [], 0) := by kernel_rfl

theorem awake3_get : ((((Val.mk 6 false 0 empty empty empty [Val.numV 7] [⟨#[97]⟩]).find ⟨#[97]⟩).bind fun i => (Val.mk 6 false 0 empty empty empty [Val.numV 7] [⟨#[97]⟩]).items[i]?).getD .zero = Val.numV 7) ∧ ((Val.mk 6 false 0 empty empty empty [Val.numV 7] [⟨#[97]⟩]).find ⟨#[97]⟩).isSome = true := ⟨by kernel_rfl, by kernel_rfl⟩

theorem awake3_h : ((Val.mk 5 false 0 empty empty empty [Val.numV 1, Val.numV 2] []).holds (Val.numV 2) = true) ∧ ((Val.mk 5 false 0 empty empty empty [Val.numV 1, Val.numV 2] []).holds (Val.mk 3 false 0 ⟨#[49]⟩ empty empty [] []) = false) := ⟨by kernel_rfl, by kernel_rfl⟩
theorem awake3_o : ((Val.numV 1).ord (Val.numV 2) = -1) ∧ (((Val.numV 3).ord (Val.numV 3) == 0) = true) := ⟨by kernel_rfl, by kernel_rfl⟩
set_option maxRecDepth 100000 in
set_option maxHeartbeats 1600000 in
theorem awake3_ok (w : World) : Calls Try.prog 15 #[] w fun e w' => e = .returned (.bool true) ∧ Ext w w' := by
  go_enter Try.func15, Try.ntmps15
  go_wp2_with fail
  refine (num_ok 2 _).mono ?_
  rintro e wa ⟨rfl, hxa⟩
  have HXa := Lib.hid hxa
  clear hxa
  go_wp2_with fail
  refine (num_ok 1 _).mono ?_
  rintro e wb ⟨rfl, hxb⟩
  have HXb := Lib.hid (HXa.out.trans hxb)
  clear hxb HXa
  go_wp2_with fail
  refine (num_ok 2 _).mono ?_
  rintro e wc ⟨rfl, hxc⟩
  have HXc := Lib.hid (HXb.out.trans hxc)
  clear hxc HXb
  go_wp2_with fail
  have hq : ∀ W, Val.At (fun b => b = wc.heap.size) W (.mk 5 false 0 empty empty empty [Val.numV 2, Val.numV 1, Val.numV 2] []) [.int .i64 5, .bool false, .int .i64 0, .string ByteArray.empty, .string ByteArray.empty, .string ByteArray.empty, .slice (some ⟨wc.heap.size, 0, none⟩) 3 3, .slice none 0 0] → wc.heap.size < W.heap.size →
      Calls Try.prog 18 #[.agg #[.int .i64 5, .bool false, .int .i64 0, .string ByteArray.empty, .string ByteArray.empty, .string ByteArray.empty, .slice (some ⟨wc.heap.size, 0, none⟩) 3 3, .slice none 0 0]] W (ValErr (.mk 5 false 0 empty empty empty [Val.numV 1, Val.numV 2] []) 0 W) := fun W hW hl => by
    have := canon_okP _ _ W _ (by simp [Val.dep, Val.deps, Val.numV]) (fun b hb => by rw [hb]; exact hl) hW
    rwa [awake3_can] at this
  refine (hq _ (Val.set_at (vals_at_flat (xs := numC 2 ++ numC 1 ++ numC 2) rfl (cellsAt_new _ _ rfl) ⟨numC 2, _, rfl, Val.num_at _ _ _ (by constructor <;> omega), numC 1, _, rfl, Val.num_at _ _ _ (by constructor <;> omega), numC 2, [], rfl, Val.num_at _ _ _ (by constructor <;> omega), rfl⟩ (by simp [LIM]) (by simp) (by rw [maxLen_eq]; omega))) (by simp)).mono ?_
  rintro e w1 ⟨cs, rfl, hat, hx1⟩
  have hat' := hat
  unfold Val.At at hat'
  unfold empty at hat'
  obtain ⟨A, cap, nv, rfl, _, ⟨_, hcap, hcap'⟩, hrow, A2, cap2, rfl, _⟩ := hat'
  obtain ⟨b, o, rfl, hb, hr⟩ := hrow (by simp)
  obtain ⟨c0, _, hc0, hn0⟩ := hr.get (i := 0) (x := Val.numV 1) rfl
  unfold Val.numV Val.At at hn0
  obtain ⟨_, _, _, rfl, _⟩ := hn0
  have h1 : w1.cell? ⟨b, o + 2, none⟩ = some (.int .i64 1) := by simpa using hc0 2 _ rfl
  rw [maxLen_eq] at hcap'
  have HX1 : Hid (Ext w w1) := Lib.hid ((HXc.out.alloc _).trans hx1)
  have Hat := Lib.hid hat
  have Hcl := Lib.hid h1
  have Hb := Lib.hid hb
  clear hat hrow hr hc0 hx1 h1 hb hq
  go_wp2_with fail
  refine (num_ok 7 _).mono ?_
  rintro e wd ⟨rfl, hxd⟩
  have HXd := Lib.hid hxd
  clear hxd
  go_wp2_with fail
  have hbx : wd.heap[w1.heap.size]? = some (.cells #[.int .i64 5, .bool false, .int .i64 0, .string ByteArray.empty, .string ByteArray.empty, .string ByteArray.empty, .slice (some ⟨b, o, none⟩) 2 cap, .slice A2 0 cap2] 27 (0, 0)) := by
    rw [HXd.out.block _ (by simp; omega), Below.heap_alloc _ _ _ (by simp)]; exact heap_alloc_at rfl _
  have hnm : wd.heap[w1.heap.size + 1]? = some (.cells #[.string ⟨#[97]⟩] 9 (0, 0)) := by
    rw [HXd.out.block _ (by simp)]; exact heap_alloc_at (by simp) _
  have hsz : w1.heap.size + 1 < wd.heap.size := Blk_lt hnm
  have HBx := Lib.hid hbx
  have HNm := Lib.hid hnm
  have Hsz := Lib.hid hsz
  have HXe : Hid (Ext w1 wd) := Lib.hid ((((Ext.refl w1).alloc _).alloc _).trans HXd.out)
  clear hbx hnm hsz
  have hq : ∀ W, Val.At (fun b => b = wd.heap.size ∨ b = w1.heap.size + 1) W (.mk 6 false 0 empty empty empty [Val.numV 7] [⟨#[97]⟩]) [.int .i64 6, .bool false, .int .i64 0, .string ByteArray.empty, .string ByteArray.empty, .string ByteArray.empty, .slice (some ⟨wd.heap.size, 0, none⟩) 1 1, .slice (some ⟨w1.heap.size + 1, 0, none⟩) 1 1] → wd.heap.size < W.heap.size →
      Calls Try.prog 22 #[.agg #[.int .i64 6, .bool false, .int .i64 0, .string ByteArray.empty, .string ByteArray.empty, .string ByteArray.empty, .slice (some ⟨wd.heap.size, 0, none⟩) 1 1, .slice (some ⟨w1.heap.size + 1, 0, none⟩) 1 1], .string ⟨#[97]⟩] W (ValBool (fun b => b = wd.heap.size ∨ b = w1.heap.size + 1) (Val.numV 7) true W) := fun W hW hl => by
    have := get_ok _ ⟨#[97]⟩ _ W _ (fun b hb => by rcases hb with rfl | rfl; exact hl; have := Hsz.out; omega) hW
    rwa [show (((Val.mk 6 false 0 empty empty empty [Val.numV 7] [⟨#[97]⟩]).find ⟨#[97]⟩).bind fun i => (Val.mk 6 false 0 empty empty empty [Val.numV 7] [⟨#[97]⟩]).items[i]?).getD .zero = Val.numV 7 from awake3_get.1, show ((Val.mk 6 false 0 empty empty empty [Val.numV 7] [⟨#[97]⟩]).find ⟨#[97]⟩).isSome = true from awake3_get.2] at this
  refine (hq _ (Val.rec_at (vals_at_flat (xs := numC 7) (.inl rfl) (cellsAt_new _ _ rfl) ⟨numC 7, [], rfl, Val.num_at _ _ _ (by constructor <;> omega), rfl⟩ (by simp [LIM]) (by simp) (by rw [maxLen_eq]; omega))
    ⟨_, 1, rfl, by simp [LIM], by simp, by rw [maxLen_eq]; omega, by intro s hs; simp at hs; subst hs; rw [maxLen_eq]; decide, fun _ => ⟨_, 0, rfl, .inr rfl, fun j v hj => by rw [cell_of_row _ _ _ _ _ _ ((Below.heap_alloc _ _ _ Hsz.out).trans HNm.out), Nat.zero_add]; simpa using hj⟩⟩) (by simp)).mono ?_
  rintro e w2 ⟨cs, rfl, hat, hx2⟩
  unfold Val.numV Val.At at hat
  unfold empty at hat
  obtain ⟨A7, cap7, nv7, rfl, _, _, _, A8, cap8, rfl, _⟩ := hat
  have HXf : Hid (Ext w1 w2) := Lib.hid ((HXe.out.alloc _).trans hx2)
  have hbx2 : w2.heap[w1.heap.size]? = _ := (hx2.block _ (Nat.lt_of_lt_of_le (Blk_lt HBx.out) ((Ext.refl wd).alloc _).size)).trans ((Below.heap_alloc _ _ _ (Blk_lt HBx.out)).trans HBx.out)
  have HBx2 := Lib.hid hbx2
  clear hq hx2 hbx2 HBx HNm Hsz HXd
  go_wp2_with fail
  have p0 : w2.cell? ⟨w1.heap.size, 0, none⟩ = some (.int .i64 5) := by rw [cell_of_row _ _ _ _ _ _ HBx2.out]; rfl
  have p1 : w2.cell? ⟨w1.heap.size, 1, none⟩ = some (.bool false) := by rw [cell_of_row _ _ _ _ _ _ HBx2.out]; rfl
  have p2 : w2.cell? ⟨w1.heap.size, 2, none⟩ = some (.int .i64 0) := by rw [cell_of_row _ _ _ _ _ _ HBx2.out]; rfl
  have p3 : w2.cell? ⟨w1.heap.size, 3, none⟩ = some (.string ByteArray.empty) := by rw [cell_of_row _ _ _ _ _ _ HBx2.out]; rfl
  have p4 : w2.cell? ⟨w1.heap.size, 4, none⟩ = some (.string ByteArray.empty) := by rw [cell_of_row _ _ _ _ _ _ HBx2.out]; rfl
  have p5 : w2.cell? ⟨w1.heap.size, 5, none⟩ = some (.string ByteArray.empty) := by rw [cell_of_row _ _ _ _ _ _ HBx2.out]; rfl
  have p6 : w2.cell? ⟨w1.heap.size, 6, none⟩ = some (.slice (some ⟨b, o, none⟩) 2 cap) := by rw [cell_of_row _ _ _ _ _ _ HBx2.out]; rfl
  have p7 : w2.cell? ⟨w1.heap.size, 7, none⟩ = some (.slice A2 0 cap2) := by rw [cell_of_row _ _ _ _ _ _ HBx2.out]; rfl
  have pb : w2.cell? ⟨b, o + 2, none⟩ = some (.int .i64 1) := (World.cell?_of_block (a := ⟨b, o + 2, none⟩) (HXf.out.block b Hb.out.2)).trans Hcl.out
  generalize hW3 : w2.alloc (.cells #[.int .i64 2, .bool false, .int .i64 7, .string ByteArray.empty, .string ByteArray.empty, .string ByteArray.empty, .slice A7 0 cap7, .slice A8 0 cap8] 27) = W3
  have hx3 : Ext w2 W3 := by rw [← hW3]; exact (Ext.refl w2).alloc _
  have hs : W3.cell? ⟨w2.heap.size, 2, none⟩ = some (.int .i64 7) := by rw [← hW3, cell_of_row _ _ _ _ _ _ (heap_alloc_at rfl _)]; rfl
  have HX3 : Hid (Ext w1 W3) := Lib.hid (HXf.out.trans hx3)
  have HXw : Hid (Ext w W3) := Lib.hid (HX1.out.trans HX3.out)
  clear hW3
  have q0 := cell_regrown ((hx3.cell (Nat.lt_of_lt_of_le (Blk_lt HBx2.out) (Nat.le_refl _))).trans p0)
  have q1 := cell_regrown ((hx3.cell (Nat.lt_of_lt_of_le (Blk_lt HBx2.out) (Nat.le_refl _))).trans p1)
  have q2 := cell_regrown ((hx3.cell (Nat.lt_of_lt_of_le (Blk_lt HBx2.out) (Nat.le_refl _))).trans p2)
  have q3 := cell_regrown ((hx3.cell (Nat.lt_of_lt_of_le (Blk_lt HBx2.out) (Nat.le_refl _))).trans p3)
  have q4 := cell_regrown ((hx3.cell (Nat.lt_of_lt_of_le (Blk_lt HBx2.out) (Nat.le_refl _))).trans p4)
  have q5 := cell_regrown ((hx3.cell (Nat.lt_of_lt_of_le (Blk_lt HBx2.out) (Nat.le_refl _))).trans p5)
  have q6 := cell_regrown ((hx3.cell (Nat.lt_of_lt_of_le (Blk_lt HBx2.out) (Nat.le_refl _))).trans p6)
  have q7 := cell_regrown ((hx3.cell (Nat.lt_of_lt_of_le (Blk_lt HBx2.out) (Nat.le_refl _))).trans p7)
  have qb := cell_regrown ((hx3.cell (Nat.lt_of_lt_of_le Hb.out.2 HXf.out.size)).trans pb)
  have qs := cell_regrown hs
  have hcap1 : (0 : Int) < 2 := by omega
  clear p0 p1 p2 p3 p4 p5 p6 p7 pb hs hx3
  have hV : ∀ W, Ext W3 W → Val.At (fun b => b < w1.heap.size) W (.mk 5 false 0 empty empty empty [Val.numV 1, Val.numV 2] []) [.int .i64 5, .bool false, .int .i64 0, .string ByteArray.empty, .string ByteArray.empty, .string ByteArray.empty, .slice (some ⟨b, o, none⟩) 2 cap, .slice A2 0 cap2] := fun W hW => (Hat.out.mono fun b hb => hb.2).alike (Alike.of_ext (HX3.out.trans hW) fun _ h => h)
  have hl : ∀ W, Ext W3 W → ∀ b, b < w1.heap.size → b < W.heap.size := fun W hW b hb => Nat.lt_of_lt_of_le hb (HX3.out.trans hW).size
  have k1 : ∀ W, Ext W3 W → Calls Try.prog 24 #[.agg #[.int .i64 5, .bool false, .int .i64 0, .string ByteArray.empty, .string ByteArray.empty, .string ByteArray.empty, .slice (some ⟨b, o, none⟩) 2 cap, .slice A2 0 cap2], .agg #[.int .i64 2, .bool false, .int .i64 2, .string ByteArray.empty, .string ByteArray.empty, .string ByteArray.empty, .slice none 0 0, .slice none 0 0]] W fun e w' => e = .returned (.bool true) ∧ Ext W w' := fun W hW => by
    have := holds_ok _ (Val.numV 2) _ W _ (numC 2) (hl W hW) (hV W hW) (Val.num_at _ _ _ (by constructor <;> omega))
    rwa [awake3_h.1] at this
  have k2 : ∀ W, Ext W3 W → Calls Try.prog 24 #[.agg #[.int .i64 5, .bool false, .int .i64 0, .string ByteArray.empty, .string ByteArray.empty, .string ByteArray.empty, .slice (some ⟨b, o, none⟩) 2 cap, .slice A2 0 cap2], .agg #[.int .i64 3, .bool false, .int .i64 0, .string ⟨#[49]⟩, .string ⟨#[]⟩, .string ⟨#[]⟩, .slice none 0 0, .slice none 0 0]] W fun e w' => e = .returned (.bool false) ∧ Ext W w' := fun W hW => by
    have := holds_ok _ (Val.mk 3 false 0 ⟨#[49]⟩ empty empty [] []) _ W _ [.int .i64 3, .bool false, .int .i64 0, .string ⟨#[49]⟩, .string ⟨#[]⟩, .string ⟨#[]⟩, .slice none 0 0, .slice none 0 0] (hl W hW) (hV W hW) (Val.plain_at _ _ 3 false 0 ⟨#[49]⟩ empty empty (by constructor <;> omega) (by constructor <;> omega) (by rw [maxLen_eq]; decide) empty_le empty_le)
    rwa [awake3_h.2] at this
  have k3 : ∀ W, Ext W3 W → Calls Try.prog 25 #[.agg #[.int .i64 2, .bool false, .int .i64 1, .string ByteArray.empty, .string ByteArray.empty, .string ByteArray.empty, .slice none 0 0, .slice none 0 0], .agg #[.int .i64 2, .bool false, .int .i64 2, .string ByteArray.empty, .string ByteArray.empty, .string ByteArray.empty, .slice none 0 0, .slice none 0 0]] W fun e w' => e = .returned (.int .i64 (-1)) ∧ Ext W w' := fun W hW => by
    have := order_ok _ (Val.numV 1) (Val.numV 2) (fun _ => False) W (numC 1) (numC 2) (Nat.le_refl _) (fun _ h => h.elim) (Val.num_at _ _ _ (by constructor <;> omega)) (Val.num_at _ _ _ (by constructor <;> omega))
    rwa [awake3_o.1] at this
  have k4 : ∀ W, Ext W3 W → Calls Try.prog 26 #[.agg #[.int .i64 2, .bool false, .int .i64 3, .string ByteArray.empty, .string ByteArray.empty, .string ByteArray.empty, .slice none 0 0, .slice none 0 0], .agg #[.int .i64 2, .bool false, .int .i64 3, .string ByteArray.empty, .string ByteArray.empty, .string ByteArray.empty, .slice none 0 0, .slice none 0 0]] W fun e w' => e = .returned (.bool true) ∧ Ext W w' := fun W hW => by
    have := same_ok (Val.numV 3) (Val.numV 3) (fun _ => False) W (numC 3) (numC 3) (fun _ h => h.elim) (Val.num_at _ _ _ (by constructor <;> omega)) (Val.num_at _ _ _ (by constructor <;> omega))
    rwa [awake3_o.2] at this
  have k5 : ∀ W, Ext W3 W → Calls Try.prog 27 #[.agg #[.int .i64 5, .bool false, .int .i64 0, .string ByteArray.empty, .string ByteArray.empty, .string ByteArray.empty, .slice (some ⟨b, o, none⟩) 2 cap, .slice A2 0 cap2]] W fun e w' => e = .returned (.int .i64 2) ∧ Ext W w' := fun W hW =>
    depth_okP _ (.mk 5 false 0 empty empty empty [Val.numV 1, Val.numV 2] []) _ W _ (Nat.le_refl _) (by simp [Val.dep, Val.deps, Val.numV]) (hl W hW) (hV W hW)
  have K1 := Lib.hid k1
  have K2 := Lib.hid k2
  have K3 := Lib.hid k3
  have K4 := Lib.hid k4
  have K5 := Lib.hid k5
  clear k1 k2 k3 k4 k5 hV hl
  refine region_later (by kernel_rfl) (by kernel_rfl) ?_
  iterate 18 (go_big_quiet_step (fail))
  go_big_quiet_step ((go_at_call 28; exact later_call (fun W _ => num_ok _ W) _ _))
  go_big_quiet_step ((go_at_call 24; exact later_call K1.out _ _))
  iterate 4 (go_big_quiet_step (fail))
  go_big_quiet_step ((go_at_call 24; exact later_call K2.out _ _))
  iterate 11 (go_big_quiet_step (fail))
  go_big_quiet_step ((go_at_call 28; exact later_call (fun W _ => num_ok _ W) _ _))
  go_big_quiet_step ((go_at_call 28; exact later_call (fun W _ => num_ok _ W) _ _))
  go_big_quiet_step ((go_at_call 25; exact later_call K3.out _ _))
  iterate 3 (go_big_quiet_step (fail))
  go_big_quiet_step ((go_at_call 28; exact later_call (fun W _ => num_ok _ W) _ _))
  go_big_quiet_step ((go_at_call 28; exact later_call (fun W _ => num_ok _ W) _ _))
  go_big_quiet_step ((go_at_call 26; exact later_call K4.out _ _))
  iterate 3 (go_big_quiet_step (fail))
  go_big_quiet_step ((go_at_call 27; exact later_call K5.out _ _))
  repeat (go_big_quiet_step (fail))
  refine wpQuiet_nil ?_
  intro w3 hw3
  have HXz := Lib.hid hw3
  clear hw3
  go_wp2_with fail
  go_ret
  exact ⟨rfl, HXw.out.trans HXz.out⟩
end Go.Proofs.Ytpkgkabcikmopaa
