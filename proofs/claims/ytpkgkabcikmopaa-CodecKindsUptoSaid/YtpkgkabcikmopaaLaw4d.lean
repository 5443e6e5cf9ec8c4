/-
  The walk of layer 4's law CodecKinds: it answers true. The conditions: the bytes lie in old memory.
-/
import Derived.Test.YtpkgkabcikmopaaAwake4
import Derived.Test.YtpkgkabcikmopaaDecodeR
namespace Go.Proofs.Ytpkgkabcikmopaa
open Go.RowKit

set_option maxRecDepth 100000 in
set_option maxHeartbeats 3200000 in
theorem codecKinds_walk (kb n0 n1 n2 n3 : UInt8) (bs : List UInt8) (w : World) (vr : Value) (hb : BytesIn w vr bs) (hl : bs.length ≤ 1073741824) :
    Calls Try.prog 13 #[.int .u8 kb.toNat, .agg #[.int .u8 n0.toNat, .int .u8 n1.toNat, .int .u8 n2.toNat, .int .u8 n3.toNat], vr] w fun e w' => e = .returned (.bool true) ∧ Ext w w' := by
  have HIn := Lib.hid hb
  obtain ⟨A, c, rfl, hc1, hc2, hsrc⟩ := hb
  have hs : SrcAt w A bs.length (cellsB bs) := fun h0 => let ⟨b, of, e, _, hc⟩ := hsrc h0; ⟨b, of, e, hc⟩
  have HS := Lib.hid hs
  obtain ⟨N, hN⟩ : ∃ N, N = bs.length := ⟨_, rfl⟩
  rw [← hN] at hl hc1 ⊢
  have HN := Lib.hid hN
  clear hsrc hs hN HIn
  go_enter Try.func13, Try.ntmps13
  go_wp2_with fail
  refine (awake4_ok _).mono ?_
  rintro e w1 ⟨rfl, hx1⟩
  have hb1 : w1.heap[w.heap.size]? = some (.cells #[.int .u8 n0.toNat, .int .u8 n1.toNat, .int .u8 n2.toNat, .int .u8 n3.toNat] 55 (0, 0)) := (hx1.block w.heap.size (by simp)).trans (heap_alloc_new w _)
  have HX1 := Lib.hid (((Ext.refl w).alloc _).trans hx1)
  have f0 : w1.cell? ⟨w.heap.size, 0, none⟩ = some (.int .u8 n0.toNat) := by rw [cell_of_row _ _ _ _ _ _ hb1]; rfl
  have f1 : w1.cell? ⟨w.heap.size, 1, none⟩ = some (.int .u8 n1.toNat) := by rw [cell_of_row _ _ _ _ _ _ hb1]; rfl
  have f2 : w1.cell? ⟨w.heap.size, 2, none⟩ = some (.int .u8 n2.toNat) := by rw [cell_of_row _ _ _ _ _ _ hb1]; rfl
  have f3 : w1.cell? ⟨w.heap.size, 3, none⟩ = some (.int .u8 n3.toNat) := by rw [cell_of_row _ _ _ _ _ _ hb1]; rfl
  clear hx1 hb1
  by_cases h3 : 300 < N
  · have t0 : decide ((300 : Int) < N) = true := by simp; omega
    clear h3
    go_wp2_with fail
    go_ret
    exact ⟨rfl, HX1.out⟩
  · have t0 : decide ((300 : Int) < N) = false := by simp; omega
    clear h3
    go_wp2_with (at_builtin; go_must (refine wpList_append_bytes rfl (.tmp 29) (.tmp 30) rfl w1.heap.size (.slice (some ⟨w1.heap.size, 0, none⟩) 5 5) [kb, n0, n1, n2, n3] rfl (World.ownsRow_lit w1 #[.int .u8 kb.toNat, .int .u8 n0.toNat, .int .u8 n1.toNat, .int .u8 n2.toNat, .int .u8 n3.toNat] 5 (Nat.le_refl _) (by rw [maxLen_eq]; omega) rfl) A c bs (by rw [← HN.out]; rfl) ((HS.out.grow HX1.out).grow ((Ext.refl w1).alloc _)) (by rw [← HN.out]; simp; omega) (by simp) ?_); intro v2 w2 hrow hput; obtain ⟨xs, hxs⟩ : ∃ xs, xs = [kb, n0, n1, n2, n3] ++ bs := ⟨_, rfl⟩; rw [← hxs] at hrow; have HXl : Hid (xs.length ≤ 1073741829) := Lib.hid (by rw [hxs]; simp; have := HN.out; omega); have HIn := Lib.hid hrow.isIn; have HX2 := Lib.hid ((HX1.out.alloc _).fresh hput.grown (HX1.out.size)); obtain ⟨A2, c2, rfl, hs1, hs2, hs3⟩ := hrow.shape; clear hrow hput hxs hs1 hs2 hs3)
    refine (decode_okP xs w2 _ HIn.out (by have := HXl.out; omega)).mono ?_
    rintro e w3 ⟨v, er, cs, rfl, hd, hat, hx3⟩
    obtain ⟨p0, p1, p2, p3, p4, p5, p6, p7, p8, p9, pa, pb, rfl⟩ := hat.shape
    have HD := Lib.hid hd
    have HAt := Lib.hid hat
    have HX3 := Lib.hid hx3
    clear hd hat hx3
    go_wp2_with fail
    refine (decode_okR xs _ _ (HIn.out.ext (HX3.out.alloc _)) (by have := HXl.out; omega)).mono ?_
    rintro e w4 ⟨v', er', cs', rfl, hd, hat, hx4⟩
    obtain ⟨rfl, rfl⟩ := hd.unique HD.out
    obtain ⟨q0, q1, q2, q3, q4, q5, q6, q7, q8, q9, qa, qb, rfl⟩ := hat.shape
    have HB := Lib.hid ((BoxAt.new w3 27 [.int .i64 p0, .bool p1, .int .i64 p2, .string p3, .string p4, .string p5, .slice p6 p7 p8, .slice p9 pa pb]).ext (hx4.alloc (.cells [.int .i64 q0, .bool q1, .int .i64 q2, .string q3, .string q4, .string q5, .slice q6 q7 q8, .slice q9 qa qb].toArray 27)))
    have HB4 := Lib.hid (BoxAt.new w4 27 [.int .i64 q0, .bool q1, .int .i64 q2, .string q3, .string q4, .string q5, .slice q6 q7 q8, .slice q9 qa qb])
    have hx5 : Ext w3 (w4.alloc (.cells [.int .i64 q0, .bool q1, .int .i64 q2, .string q3, .string q4, .string q5, .slice q6 q7 q8, .slice q9 qa qb].toArray 27)) := (((Ext.refl w3).alloc _).trans hx4).alloc _
    have HA1 := Lib.hid (HAt.out.alike (Alike.of_ext hx5 fun b hb => hb.2) |>.mono fun b hb => Nat.lt_of_lt_of_le hb.2 hx5.size)
    have HA2 := Lib.hid (hat.alike (Alike.of_ext ((Ext.refl w4).alloc (.cells [.int .i64 q0, .bool q1, .int .i64 q2, .string q3, .string q4, .string q5, .slice q6 q7 q8, .slice q9 qa qb].toArray 27)) fun b hb => hb.2) |>.mono fun b hb => Nat.lt_of_lt_of_le hb.2 ((Ext.refl w4).alloc (.cells [.int .i64 q0, .bool q1, .int .i64 q2, .string q3, .string q4, .string q5, .slice q6 q7 q8, .slice q9 qa qb].toArray 27)).size)
    have HX5 := Lib.hid ((HX2.out.trans HX3.out).trans hx5)
    clear hd hat hx4 hx5
    go_wp2_with (first | refine wpList_load_cells_g 27 (.tmp 9) rfl rfl w3.heap.size 0 rfl Try.agg27 Try.size27 rfl HB.out.2 ?_ | refine wpList_load_cells_g 27 (.tmp 11) rfl rfl w4.heap.size 0 rfl Try.agg27 Try.size27 rfl HB4.out.2 ?_)
    refine (whole_ok _ _ _ (fun b => b < (w4.alloc (.cells [.int .i64 q0, .bool q1, .int .i64 q2, .string q3, .string q4, .string q5, .slice q6 q7 q8, .slice q9 qa qb].toArray 27)).heap.size) _ _ _ (Nat.le_refl _) (fun _ h => h) HA1.out HA2.out).mono ?_
    rintro e w6 ⟨rfl, hx6⟩
    have HX6 := Lib.hid (HX5.out.trans hx6)
    clear hx6
    rw [eqB_true.2 rfl]
    go_wp2_with fail
    go_ret
    exact ⟨rfl, HX6.out⟩
end Go.Proofs.Ytpkgkabcikmopaa
