/-
  The walk of layer 4's law CodecEncodes: it answers true. The conditions: the argument is a value that lies in old memory, of mass at most 1048576.
-/
import Derived.Test.YtpkgkabcikmopaaAwake4
import Derived.Test.YtpkgkabcikmopaaFew
namespace Go.Proofs.Ytpkgkabcikmopaa
open Go.RowKit

set_option maxRecDepth 100000 in
set_option maxHeartbeats 1600000 in
theorem codecEncodes_walk (v : Val) (w : World) (cv : List Value) (hv : InW w v cv) (hm : v.mass ≤ 1048576) :
    Calls Try.prog 9 #[.agg cv.toArray] w fun e w' => e = .returned (.bool true) ∧ Ext w w' := by
  obtain ⟨r0, r1, r2, r3, r4, r5, r6, r7, r8, r9, ra, rb, rfl⟩ := Val.At.shape hv
  have HV := Lib.hid hv
  clear hv
  go_enter Try.func9, Try.ntmps9
  go_wp2_with fail
  refine (awake4_ok _).mono ?_
  rintro e w1 ⟨rfl, hx1⟩
  have B := Lib.hid ((BoxAt.new w 27 [.int .i64 r0, .bool r1, .int .i64 r2, .string r3, .string r4, .string r5, .slice r6 r7 r8, .slice r9 ra rb]).ext hx1)
  have HX1 := Lib.hid (((Ext.refl w).alloc _).trans hx1)
  have V := Lib.hid (HV.out.ext HX1.out)
  clear hx1 HV
  go_wp2_with (refine wpList_load_cells rfl 27 (.tmp 1) rfl (w.heap.size) 0 rfl Try.agg27 Try.size27 rfl B.out.2 ?_)
  refine (few_ok04 _ v 0 _ _ [_, _, _, _, _, _, _, _] (Nat.le_refl _) (by omega) (by omega) (InW.lt _) V.out).mono ?_
  rintro e w2 ⟨rfl, hx⟩
  have H2 := Lib.hid hx
  clear hx
  have Hd := Lib.hid (show v.few 0 = true → v.dep ≤ 62 from Val.dep_le)
  generalize v.few 0 = fv at *
  cases fv
  · go_wp2_with fail
    go_ret
    exact ⟨rfl, HX1.out.trans H2.out⟩
  have D := Lib.hid (show v.dep ≤ 1000000 by have := Hd.out rfl; omega)
  clear Hd
  obtain ⟨d0, d1, d2, d3, d4, d5, d6, d7⟩ := (B.out.ext H2.out).cells
  go_wp2_with fail
  clear d0 d1 d2 d3 d4 d5 d6 d7
  refine (size_ok04 _ v _ _ [_, _, _, _, _, _, _, _] (Nat.le_refl _) (InW.lt _) (V.out.ext H2.out)).mono ?_
  rintro e w3 ⟨sz, _, rfl, hx⟩
  have H3 := Lib.hid (H2.out.trans hx)
  clear hx H2
  by_cases hsz : 500 < sz
  · have t0 : decide (500 < sz) = true := by simpa using hsz
    clear hsz
    go_wp2_with fail
    go_ret
    exact ⟨rfl, HX1.out.trans H3.out⟩
  have t0 : decide (500 < sz) = false := by simpa using hsz
  clear hsz
  go_wp2_with (refine wpList_load_cells rfl 27 (.tmp 1) rfl (w.heap.size) 0 rfl Try.agg27 Try.size27 rfl (B.out.ext H3.out).2 ?_)
  clear t0
  have h4 := encode_okP v _ _ [_, _, _, _, _, _, _, _] D.out (by omega) (InW.lt _) (V.out.ext H3.out)
  have h5 := fun (W : World) (h : Ext w3 W) => encode_okR v _ W [.int .i64 r0, .bool r1, .int .i64 r2, .string r3, .string r4, .string r5, .slice r6 r7 r8, .slice r9 ra rb] D.out (by omega) (InW.lt _) ((V.out.ext H3.out).ext h)
  obtain ⟨⟨ob, oe⟩, hob⟩ : ∃ r, r = v.bytes := ⟨_, rfl⟩
  rw [← hob] at h4 h5
  have HF5 := Lib.hid h5
  clear hob h5
  refine h4.mono ?_
  clear h4
  rintro e w4 ⟨o4, rfl, hrow4, hx4⟩
  obtain ⟨A4, c4, rfl, hs4, _, _⟩ := hrow4.shape
  have HRow4 := Lib.hid hrow4
  have HS4 := Lib.hid hs4
  have HX4 := Lib.hid hx4
  have H4 := Lib.hid (H3.out.trans hx4)
  clear hrow4 hs4 hx4
  go_wp2_with (refine wpList_load_cells rfl 27 (.tmp 1) rfl (w.heap.size) 0 rfl Try.agg27 Try.size27 rfl (B.out.ext H4.out).2 ?_)
  refine (HF5.out w4 HX4.out).mono ?_
  rintro e w5 ⟨o5, rfl, hrow5, hx5⟩
  obtain ⟨A5, c5, rfl, hs5, _, _⟩ := hrow5.shape
  have hs45 : SrcAt w5 A4 ob.length (cellsB ob) := fun h0 => by
    obtain ⟨b, of, e, hc⟩ := HS4.out h0
    exact ⟨b, of, e, fun j v hj => (World.cell?_of_block (a := ⟨b, of + j, none⟩) (hx5.block b (block_lt_of_cell (hc j v hj)))).trans (hc j v hj)⟩
  have HS45 := Lib.hid hs45
  have HS5 := Lib.hid hs5
  have H5 := Lib.hid (HX1.out.trans (H4.out.trans hx5))
  clear hrow5 hs5 hx5 hs45
  go_wp2_with (first | refine wpList_str rfl (.tmp 31) rfl A4 c4 ob rfl HS45.out ?_ | refine wpList_str rfl (.tmp 33) rfl A5 c5 ob rfl HS5.out ?_)
  go_ret
  exact ⟨by simp, H5.out⟩
end Go.Proofs.Ytpkgkabcikmopaa
