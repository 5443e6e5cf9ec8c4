/-
  The value of bytes, or an error: the walk of the program's Decode. The conditions: the bytes lie in old memory.
-/
import Derived.Test.YtpkgkabcikmopaaDecode
namespace Go.Proofs.Ytpkgkabcikmopaa
open Go.RowKit

/-- bytes in what is there -/
def BytesIn (w : World) (v : Value) (bs : List UInt8) : Prop := ∃ A c, v = .slice A bs.length c ∧ bs.length ≤ c ∧ c ≤ 9223372036854775807 ∧ (0 < bs.length → ∃ b of, A = some ⟨b, of, none⟩ ∧ b < w.heap.size ∧ CellsAt w b of (cellsB bs))
theorem BytesIn.ext {w w' : World} {v : Value} {bs : List UInt8} (h : BytesIn w v bs) (k : Ext w w') : BytesIn w' v bs := by
  obtain ⟨A, c, e, h1, h2, h3⟩ := h
  refine ⟨A, c, e, h1, h2, fun h0 => ?_⟩
  obtain ⟨b, of, e, hb, hc⟩ := h3 h0
  exact ⟨b, of, e, Nat.lt_of_lt_of_le hb k.size, hc.alike (S := fun b => b < w.heap.size) hb (Alike.of_ext k fun _ h => h)⟩
theorem ByteRow.isIn {base : Nat} {w : World} {o : Value} {bs : List UInt8} (h : ByteRow base w o bs) : BytesIn w o bs := by
  obtain ⟨A, c, rfl⟩ := own_shape h
  obtain ⟨h1, h2, h3⟩ := own_src h
  rw [maxLen_eq] at h2
  refine ⟨A, c, rfl, h1, h2, fun h0 => ?_⟩
  obtain ⟨g, e, _, hl, hc⟩ := h3 h0
  exact ⟨g, 0, e, hl, hc⟩
/-- the value of bytes, in new memory -/
def DecRes (bs : List UInt8) (w : World) (e : Ending) (w' : World) : Prop := ∃ (v : Val) (er : Int) (cs : List Value), e = .returned (.tuple #[.agg cs.toArray, .int .i64 er]) ∧ DecIs bs v er ∧ Val.At (Fresh w.heap.size w') w' v cs ∧ Ext w w'

set_option maxRecDepth 100000 in
set_option maxHeartbeats 1600000 in
theorem decode_okP (bs : List UInt8) (w : World) (vb : Value) (hb : BytesIn w vb bs) (hl0 : bs.length ≤ 70368744177664) : Calls Try.prog 34 #[vb] w (DecRes bs w) := by
  obtain ⟨A, c, rfl, hc1, hc2, hsrc⟩ := hb
  have HS := Lib.hid hsrc
  clear hsrc
  by_cases hl : 65536 < bs.length
  · have t0 : decide ((65536 : Int) < bs.length) = true := by simp; omega
    go_enter Try.func34, Try.ntmps34
    have HD : Hid (DecIs bs .zero 12) := Lib.hid (.inl ⟨hl, rfl, rfl⟩)
    clear hl
    go_wp2_with fail
    exact bodyPost_ret (v := .tuple #[.agg zeroCells.toArray, .int .i64 12]) (results_cell Try.results34 rfl Try.agg27 Try.size27 rfl (cellsAt_new _ zeroCells rfl)) rfl ⟨.zero, 12, zeroCells, rfl, HD.out, Val.zero_at _ _, (Ext.refl w).alloc _⟩
  · have t0 : decide ((65536 : Int) < bs.length) = false := by simp; omega
    go_enter Try.func34, Try.ntmps34
    go_wp2_with fail
    have hrd0 : RdAt w.heap.size ((w.alloc (.cells zeroCells.toArray 27)).alloc (.cells #[.slice A bs.length c, .bool false] 80)) (w.heap.size + 1) bs false := ⟨A, c, heap_alloc_at (by simp) _, hc1, hc2, by simp; omega, fun h0 => by
      obtain ⟨b, of, e, hb, hcb⟩ := HS.out h0
      exact ⟨b, of, e, by omega, hb, hcb.alike (S := fun b => b < w.heap.size) hb (Alike.of_ext (((Ext.refl w).alloc _).alloc _) fun _ h => h)⟩⟩
    refine (value_okP 50 1 rfl w.heap.size (w.heap.size + 1) _ bs false hrd0 (by omega) (by simp)).mono ?_
    rintro e w2 ⟨hg2, v, cs, bs2, bad2, rfl, hat, hrd2, hrs⟩
    clear hrd0
    obtain ⟨p0, p1, p2, p3, p4, p5, p6, p7, p8, p9, pa, pb, rfl⟩ := hat.shape
    have hR2 : w2.heap[w.heap.size]? = some (.cells zeroCells.toArray 27 (0, 0)) := (hg2.block w.heap.size (by simp; omega) (fun e => by injection e with e; omega)).trans ((Below.heap_alloc _ _ _ (by simp)).trans (heap_alloc_new w _))
    have hx2 : Ext w w2 := by
      have h1 : Ext w ((w.alloc (.cells zeroCells.toArray 27)).alloc (.cells #[.slice A bs.length c, .bool false] 80)) := ((Ext.refl w).alloc _).alloc _
      exact ⟨h1.toBelow.trans ⟨hg2.os, hg2.tape, hg2.output, hg2.size, fun b hb => hg2.block b (Nat.lt_of_lt_of_le hb h1.size) (fun e => by injection e with e; omega)⟩, Nat.le_trans h1.drawn hg2.drawn⟩
    obtain ⟨A2, c2, hh2⟩ := rdAt_heap hrd2
    have f1 : w2.cell? ⟨w.heap.size + 1, 1, none⟩ = some (.bool bad2) := by rw [cell_of_row _ _ _ _ _ _ hh2]; rfl
    have hgl : w.heap.size + 1 < w2.heap.size := hrd2.lt
    have hwl : w.heap.size < w2.heap.size := by omega
    have hat2 : Val.At (fun b => w.heap.size + 2 ≤ b ∧ b < w2.heap.size) w2 v [.int .i64 p0, .bool p1, .int .i64 p2, .string p3, .string p4, .string p5, .slice p6 p7 p8, .slice p9 pa pb] := hat.mono fun b hb => ⟨by have := hb.1; simp at this; omega, hb.2⟩
    have HAt := Lib.hid hat2
    have HR2 := Lib.hid hR2
    have HX2 := Lib.hid hx2
    have HRs := Lib.hid hrs
    have HL := Lib.hid hl
    clear hg2 hat hrd2 hrs hR2 hx2 hh2 hat2 hl t0
    cases bad2 with
    | true =>
      go_wp2_with (refine wpList_store_whole rfl 27 (.tmp 2) _ rfl w.heap.size rfl zeroCells rfl Try.size27 rfl 27 zeroCells.toArray ((Below.heap_alloc w2 _ _ hwl).trans HR2.out) rfl zero_one ?_; intro wz hwz; have HWz := Lib.hid hwz; clear hwz)
      have hcz : CellsAt wz w.heap.size 0 zeroCells := by rw [HWz.out]; exact cellsAt_setRow ((Below.heap_alloc w2 _ _ hwl).trans HR2.out) rfl
      have hxz : Ext w wz := by rw [HWz.out]; exact (HX2.out.alloc _).setRow (Nat.le_refl _) _
      exact bodyPost_ret (v := .tuple #[.agg zeroCells.toArray, .int .i64 10]) (results_cell Try.results34 rfl Try.agg27 Try.size27 rfl hcz) rfl ⟨.zero, 10, zeroCells, rfl, dec_bad HL.out HRs.out rfl, Val.zero_at _ _, hxz⟩
    | false =>
      have hmass : v.mass ≤ 65536 := by have := HRs.out.2.2.1 rfl; have := HL.out; omega
      have hdep := HRs.out.2.2.2.1
      have hfit : v.Fit := Val.fit_of_at _ v (Nat.le_refl _) _ HAt.out (by omega)
      obtain ⟨⟨ob, oe⟩, hob⟩ : ∃ r, r = v.bytes := ⟨_, rfl⟩
      have hbl := v.bytes_len
      rw [← hob] at hbl
      simp only at hbl
      have HOb := Lib.hid hob
      have HFit := Lib.hid hfit
      clear hob hfit
      go_wp2_with fail
      clear f1
      have he := encode_okP v (fun b => b < (w2.alloc (.cells #[.int .i64 p0, .bool p1, .int .i64 p2, .string p3, .string p4, .string p5, .slice p6 p7 p8, .slice p9 pa pb] 27)).heap.size) (w2.alloc (.cells #[.int .i64 p0, .bool p1, .int .i64 p2, .string p3, .string p4, .string p5, .slice p6 p7 p8, .slice p9 pa pb] 27)) [.int .i64 p0, .bool p1, .int .i64 p2, .string p3, .string p4, .string p5, .slice p6 p7 p8, .slice p9 pa pb] (by omega) (by omega) (fun _ h => h) ((HAt.out.alike (Alike.of_ext ((Ext.refl w2).alloc _) fun b hb => hb.2)).mono fun b hb => by simp; omega)
      rw [← HOb.out] at he
      refine he.mono ?_
      clear he
      rintro e w3 ⟨o3, rfl, hrow, hx3⟩
      obtain ⟨A3, c3, rfl, hsrc3, hc31, hc32⟩ := hrow.shape
      rw [maxLen_eq] at hc32
      simp only at hsrc3 hc31
      have HX5 := Lib.hid ((BoxAt.new w2 27 [.int .i64 p0, .bool p1, .int .i64 p2, .string p3, .string p4, .string p5, .slice p6 p7 p8, .slice p9 pa pb]).ext hx3)
      have HX3 := Lib.hid ((HX2.out.alloc _).trans hx3)
      have HR3 := Lib.hid ((hx3.block w.heap.size (by simp; omega)).trans ((Below.heap_alloc w2 _ _ hwl).trans HR2.out))
      have HAt3 := Lib.hid (HAt.out.alike (Alike.of_ext (((Ext.refl w2).alloc _).trans hx3) fun b hb => hb.2))
      have HSz := Lib.hid (((Ext.refl w2).alloc _).trans hx3).size
      have HSrc3 := Lib.hid hsrc3
      clear hrow hx3 hsrc3
      by_cases hoe : oe = 0
      rotate_left 1
      · have t1 : (oe != 0) = true := by simpa using hoe
        have HD := Lib.hid (dec_err HL.out HRs.out (by rw [← HOb.out]; exact hoe))
        clear hoe
        go_wp2_with (refine wpList_store_whole rfl 27 (.tmp 2) _ rfl w.heap.size rfl zeroCells rfl Try.size27 rfl 27 zeroCells.toArray HR3.out rfl zero_one ?_; intro wz hwz; have HWz := Lib.hid hwz; clear hwz)
        have hcz : CellsAt wz w.heap.size 0 zeroCells := by rw [HWz.out]; exact cellsAt_setRow HR3.out rfl
        have hxz : Ext w wz := by rw [HWz.out]; exact HX3.out.setRow (Nat.le_refl _) _
        exact bodyPost_ret (v := .tuple #[.agg zeroCells.toArray, .int .i64 10]) (results_cell Try.results34 rfl Try.agg27 Try.size27 rfl hcz) rfl ⟨.zero, 10, zeroCells, rfl, HD.out, Val.zero_at _ _, hxz⟩
      · subst hoe
        go_wp2_with fail
        refine (equal_okB A3 A c3 c ob bs w3 HSrc3.out (fun h0 => ?_) (by omega) hc31 hc1).mono ?_
        · obtain ⟨b, of, e, hb, hcb⟩ := HS.out h0
          exact ⟨b, of, e, hcb.alike (S := fun b => b < w.heap.size) hb (Alike.of_ext HX3.out fun _ h => h)⟩
        rintro e w4 ⟨rfl, hx4⟩
        have HX4 := Lib.hid (HX3.out.trans hx4)
        have HR4 := Lib.hid ((hx4.block w.heap.size (Blk_lt HR3.out)).trans HR3.out)
        have HXb := Lib.hid (HX5.out.ext hx4)
        have HAt4 := Lib.hid (HAt3.out.alike (Alike.of_ext hx4 fun b hb => Nat.lt_of_lt_of_le hb.2 HSz.out))
        have HSz4 := Lib.hid (Nat.le_trans HSz.out hx4.size)
        clear hx4
        by_cases heq : ob = bs
        · have t2 : decide (ob = bs) = true := decide_eq_true heq
          have HD := Lib.hid (dec_same HRs.out HFit.out (by rw [← HOb.out]) (by rw [← HOb.out]; exact heq))
          have HOne := Lib.hid HAt4.out.one
          clear heq
          rw [t2]
          clear t2
          go_wp2_with (first | refine wpList_load_cells rfl 27 _ rfl w2.heap.size 0 rfl Try.agg27 Try.size27 rfl HXb.out.2 ?_ | (refine wpList_store_whole rfl 27 (.tmp 2) _ rfl w.heap.size rfl [.int .i64 p0, .bool p1, .int .i64 p2, .string p3, .string p4, .string p5, .slice p6 p7 p8, .slice p9 pa pb] rfl Try.size27 rfl 27 zeroCells.toArray HR4.out rfl HOne.out ?_; intro wz hwz; have HWz := Lib.hid hwz; clear hwz))
          have hgz : GrownBy w4 wz (some w.heap.size) := by rw [HWz.out]; exact GrownBy.setRow _ _ _
          have hcz : CellsAt wz w.heap.size 0 [.int .i64 p0, .bool p1, .int .i64 p2, .string p3, .string p4, .string p5, .slice p6 p7 p8, .slice p9 pa pb] := by rw [HWz.out]; exact cellsAt_setRow HR4.out rfl
          have hxz : Ext w wz := by rw [HWz.out]; exact HX4.out.setRow (Nat.le_refl _) _
          exact bodyPost_ret (v := .tuple #[.agg [.int .i64 p0, .bool p1, .int .i64 p2, .string p3, .string p4, .string p5, .slice p6 p7 p8, .slice p9 pa pb].toArray, .int .i64 0]) (results_cell Try.results34 rfl Try.agg27 Try.size27 rfl hcz) rfl ⟨v, 0, [.int .i64 p0, .bool p1, .int .i64 p2, .string p3, .string p4, .string p5, .slice p6 p7 p8, .slice p9 pa pb], rfl, HD.out, (HAt4.out.alike (w' := wz) fun b hb => hgz.block b (Nat.lt_of_lt_of_le hb.2 HSz4.out) (fun e => by injection e with e; have := hb.1; omega)).mono fun b hb => ⟨by have := hb.1; omega, Nat.lt_of_lt_of_le hb.2 (Nat.le_trans HSz4.out hgz.size)⟩, hxz⟩
        · have t2 : decide (ob = bs) = false := decide_eq_false heq
          have HD := Lib.hid (dec_other HL.out HRs.out (by rw [← HOb.out]; exact heq))
          clear heq
          rw [t2]
          clear t2
          go_wp2_with (refine wpList_store_whole rfl 27 (.tmp 2) _ rfl w.heap.size rfl zeroCells rfl Try.size27 rfl 27 zeroCells.toArray HR4.out rfl zero_one ?_; intro wz hwz; have HWz := Lib.hid hwz; clear hwz)
          have hcz : CellsAt wz w.heap.size 0 zeroCells := by rw [HWz.out]; exact cellsAt_setRow HR4.out rfl
          have hxz : Ext w wz := by rw [HWz.out]; exact HX4.out.setRow (Nat.le_refl _) _
          exact bodyPost_ret (v := .tuple #[.agg zeroCells.toArray, .int .i64 10]) (results_cell Try.results34 rfl Try.agg27 Try.size27 rfl hcz) rfl ⟨.zero, 10, zeroCells, rfl, HD.out, Val.zero_at _ _, hxz⟩
end Go.Proofs.Ytpkgkabcikmopaa
