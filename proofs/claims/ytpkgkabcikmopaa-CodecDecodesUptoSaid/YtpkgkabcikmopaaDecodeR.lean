/-
  The value of bytes, or an error: the walk of the document's Decode. The conditions: the bytes lie in old memory.
-/
import Derived.Test.YtpkgkabcikmopaaGetR
import Derived.Test.YtpkgkabcikmopaaRead3
import Derived.ChangeArms
namespace Go.Proofs.Ytpkgkabcikmopaa
open Go.RowKit

theorem wpList_str_g {ops : Array Oper} {rest : List Oper} {o : Oper} {a : Act} {Q : Exit → Act → World → Prop} {w : World} (x : Operand) (ho : o.op = .convert 47 9 x)
    (A : Option Addr) (c : Nat) (bs : List UInt8) (hw : Region.wanted o (yielded ops a.tmps) = true) (hx : a.eval x = .slice A bs.length c) (hs : SrcAt w A bs.length (cellsB bs)) (h : wpList Try.prog ops Q rest (a.put o.dst (.string (strOf bs))) w) : wpList Try.prog ops Q (o :: rest) a w := by
  unfold wpList
  rw [if_pos hw]
  refine .inl ?_
  unfold Oper.wp execOp
  simp only [ho, hx, Sem.run_bind, Try.run_strOf hs, Result.andThen_ok, Sem.run_pure]
  exact h

set_option maxRecDepth 100000 in
set_option maxHeartbeats 1600000 in
theorem decode_okR (bs : List UInt8) (w : World) (vb : Value) (hb : BytesIn w vb bs) (hl0 : bs.length ≤ 70368744177664) : Calls Try.prog 35 #[vb] w (DecRes bs w) := by
  obtain ⟨A, c, rfl, hc1, hc2, hsrc⟩ := hb
  have HS := Lib.hid hsrc
  clear hsrc
  obtain ⟨N, hN⟩ : ∃ N, N = bs.length := ⟨_, rfl⟩
  rw [← hN] at hl0 hc1 ⊢
  have HN := Lib.hid hN
  clear hN
  by_cases hl : 65536 < N
  · have t0 : decide ((65536 : Int) < N) = true := by simp; omega
    go_enter Try.func35, Try.ntmps35
    have HD : Hid (DecIs bs .zero 12) := Lib.hid (.inl ⟨by rw [← HN.out]; exact hl, rfl, rfl⟩)
    clear hl
    go_wp2_with fail
    exact bodyPost_ret (v := .tuple #[.agg zeroCells.toArray, .int .i64 12]) (results_cell Try.results35 rfl Try.agg27 Try.size27 rfl (cellsAt_new _ zeroCells rfl)) rfl ⟨.zero, 12, zeroCells, rfl, HD.out, Val.zero_at _ _, (Ext.refl w).alloc _⟩
  · have t0 : decide ((65536 : Int) < N) = false := by simp; omega
    have hl2 : N ≤ 65536 := by omega
    have HL : Hid (¬ 65536 < bs.length) := Lib.hid (by rw [← HN.out]; exact hl)
    have HSrc : Hid (SrcAt w A bs.length (cellsB bs)) := Lib.hid fun h0 => let ⟨b, of, e, _, hc⟩ := HS.out h0; ⟨b, of, e, hc⟩
    go_enter Try.func35, Try.ntmps35
    go_wp2_with fail
    refine (get_okR 50 1 rfl A N c 0 bs HN.out false _ (HSrc.out.grow ((Ext.refl w).alloc _)) hl2 hc1 (Nat.zero_le _)).mono ?_
    rintro e w2 ⟨hx, v, cs, p2, bad2, rfl, hp2, hrs, hat⟩
    obtain ⟨p0, p1, p2', p3, p4, p5, p6, p7, p8, p9, pa, pb, rfl⟩ := hat.shape
    have hR2 : w2.heap[w.heap.size]? = some (.cells zeroCells.toArray 27 (0, 0)) := (hx.block w.heap.size (by simp)).trans (heap_alloc_new w _)
    have hx2 : Ext w w2 := ((Ext.refl w).alloc _).trans hx
    have hwl : w.heap.size < w2.heap.size := Blk_lt hR2
    have hat2 : Val.At (fun b => w.heap.size + 1 ≤ b ∧ b < w2.heap.size) w2 v [.int .i64 p0, .bool p1, .int .i64 p2', .string p3, .string p4, .string p5, .slice p6 p7 p8, .slice p9 pa pb] := hat.mono fun b hb => ⟨by have := hb.1; simp at this; omega, hb.2⟩
    have HAt := Lib.hid hat2
    have HR2 := Lib.hid hR2
    have HX2 := Lib.hid hx2
    have HRs : Hid (Reads bs false 50 v (bs.drop p2) bad2) := Lib.hid hrs
    have HR2b : Hid (((w2.alloc (Obj.cells #[Value.slice A N c, Value.int IntKind.i64 (((p2) : Nat) : Int), Value.bool bad2] 84)).alloc (.cells #[.int .i64 p0, .bool p1, .int .i64 p2', .string p3, .string p4, .string p5, .slice p6 p7 p8, .slice p9 pa pb] 27)).heap[w.heap.size]? = some (.cells zeroCells.toArray 27 (0, 0))) := Lib.hid ((Below.heap_alloc _ _ _ (by simp; omega)).trans ((Below.heap_alloc w2 _ _ hwl).trans hR2))
    clear hx hat hrs hR2 hx2 hat2 hl t0
    cases bad2 with
    | true =>
      go_wp2_with (refine wpList_store_whole rfl 27 (.tmp 2) _ rfl w.heap.size rfl zeroCells rfl Try.size27 rfl 27 zeroCells.toArray HR2b.out rfl zero_one ?_; intro wz hwz; have HWz := Lib.hid hwz; clear hwz)
      have hcz : CellsAt wz w.heap.size 0 zeroCells := by rw [HWz.out]; exact cellsAt_setRow HR2b.out rfl
      have hxz : Ext w wz := by rw [HWz.out]; exact ((HX2.out.alloc _).alloc _).setRow (Nat.le_refl _) _
      exact bodyPost_ret (v := .tuple #[.agg zeroCells.toArray, .int .i64 10]) (results_cell Try.results35 rfl Try.agg27 Try.size27 rfl hcz) rfl ⟨.zero, 10, zeroCells, rfl, dec_bad HL.out HRs.out rfl, Val.zero_at _ _, hxz⟩
    | false =>
      have hmass : v.mass ≤ 65536 := by have := HRs.out.2.2.1 rfl; have := HL.out; omega
      have hdep := HRs.out.2.2.2.1
      have hfit : v.Fit := Val.fit_of_at _ v (Nat.le_refl _) _ HAt.out (by omega)
      obtain ⟨⟨ob, oe⟩, hob⟩ : ∃ r, r = v.bytes := ⟨_, rfl⟩
      have hbl := v.bytes_len
      rw [← hob] at hbl
      simp only at hbl
      have HOb := Lib.hid hob
      have HFit := Lib.hid hfit
      clear hob hfit
      go_wp2_with fail
      obtain ⟨W1, hW1⟩ : ∃ W, W = (w2.alloc (Obj.cells #[Value.slice A N c, Value.int IntKind.i64 (((p2) : Nat) : Int), Value.bool false] 84)).alloc (.cells #[.int .i64 p0, .bool p1, .int .i64 p2', .string p3, .string p4, .string p5, .slice p6 p7 p8, .slice p9 pa pb] 27) := ⟨_, rfl⟩
      have hx12 : Ext w2 W1 := by rw [hW1]; exact ((Ext.refl w2).alloc _).alloc _
      have hb1 : W1.heap[w2.heap.size + 1]? = some (.cells [.int .i64 p0, .bool p1, .int .i64 p2', .string p3, .string p4, .string p5, .slice p6 p7 p8, .slice p9 pa pb].toArray 27 (0, 0)) := by rw [hW1]; exact heap_alloc_at (by simp) _
      rw [← hW1] at HR2b
      have he := encode_okR v (fun b => b < W1.heap.size) W1 [.int .i64 p0, .bool p1, .int .i64 p2', .string p3, .string p4, .string p5, .slice p6 p7 p8, .slice p9 pa pb] (by omega) (by omega) (fun _ h => h) ((HAt.out.alike (Alike.of_ext hx12 fun b hb => hb.2)).mono fun b hb => Nat.lt_of_lt_of_le hb.2 hx12.size)
      rw [← HOb.out] at he
      rw [hW1] at he
      refine he.mono ?_
      clear he
      rw [← hW1]
      rintro e w3 ⟨o3, rfl, hrow, hx3⟩
      obtain ⟨A3, c3, rfl, hsrc3, hc31, hc32⟩ := hrow.shape
      rw [maxLen_eq] at hc32
      simp only at hsrc3 hc31
      have HX5 := Lib.hid ((hx3.block (w2.heap.size + 1) (Blk_lt hb1)).trans hb1)
      have HX3 := Lib.hid ((HX2.out.trans hx12).trans hx3)
      have HR3 := Lib.hid ((hx3.block w.heap.size (Blk_lt HR2b.out)).trans HR2b.out)
      have HAt3 := Lib.hid (HAt.out.alike (Alike.of_ext (hx12.trans hx3) fun b hb => hb.2))
      have HSz := Lib.hid (hx12.trans hx3).size
      have HSrc3 := Lib.hid hsrc3
      have HSrcB := Lib.hid (HSrc.out.grow HX3.out)
      clear hrow hx3 hsrc3 hW1 hx12 hb1
      by_cases hoe : oe = 0
      rotate_left 1
      · have t1 : (oe != 0) = true := by simpa using hoe
        have HD := Lib.hid (dec_err HL.out HRs.out (by rw [← HOb.out]; exact hoe))
        clear hoe
        go_wp2_with (refine wpList_store_whole rfl 27 (.tmp 2) _ rfl w.heap.size rfl zeroCells rfl Try.size27 rfl 27 zeroCells.toArray HR3.out rfl zero_one ?_; intro wz hwz; have HWz := Lib.hid hwz; clear hwz)
        have hcz : CellsAt wz w.heap.size 0 zeroCells := by rw [HWz.out]; exact cellsAt_setRow HR3.out rfl
        have hxz : Ext w wz := by rw [HWz.out]; exact HX3.out.setRow (Nat.le_refl _) _
        exact bodyPost_ret (v := .tuple #[.agg zeroCells.toArray, .int .i64 10]) (results_cell Try.results35 rfl Try.agg27 Try.size27 rfl hcz) rfl ⟨.zero, 10, zeroCells, rfl, HD.out, Val.zero_at _ _, hxz⟩
      · subst hoe
        by_cases heq : ob = bs
        · have HD := Lib.hid (dec_same HRs.out HFit.out (by rw [← HOb.out]) (by rw [← HOb.out]; exact heq))
          have HOne := Lib.hid HAt3.out.one
          have HXc : Hid (CellsAt w3 (w2.heap.size + 1) 0 [.int .i64 p0, .bool p1, .int .i64 p2', .string p3, .string p4, .string p5, .slice p6 p7 p8, .slice p9 pa pb]) := Lib.hid fun j v hj => by rw [cell_of_row _ _ _ _ _ _ HX5.out, Nat.zero_add]; simpa using hj
          have t2 : ((strOf ob).toList == (strOf bs).toList) = true := by rw [heq]; simp
          clear heq
          go_wp2_with (first | refine wpList_str_g (.tmp 29) rfl A3 c3 ob rfl rfl HSrc3.out ?_ | refine wpList_str_g (.tmp 31) rfl A c bs rfl (by rw [← HN.out]; rfl) HSrcB.out ?_ | refine wpList_load_cells rfl 27 (.tmp 5) rfl (w2.heap.size + 1) 0 rfl Try.agg27 Try.size27 rfl HXc.out ?_ | (refine wpList_store_whole rfl 27 (.tmp 2) _ rfl w.heap.size rfl [.int .i64 p0, .bool p1, .int .i64 p2', .string p3, .string p4, .string p5, .slice p6 p7 p8, .slice p9 pa pb] rfl Try.size27 rfl 27 zeroCells.toArray HR3.out rfl HOne.out ?_; intro wz hwz; have HWz := Lib.hid hwz; clear hwz))
          have hgz : GrownBy w3 wz (some w.heap.size) := by rw [HWz.out]; exact GrownBy.setRow _ _ _
          have hcz : CellsAt wz w.heap.size 0 [.int .i64 p0, .bool p1, .int .i64 p2', .string p3, .string p4, .string p5, .slice p6 p7 p8, .slice p9 pa pb] := by rw [HWz.out]; exact cellsAt_setRow HR3.out rfl
          have hxz : Ext w wz := by rw [HWz.out]; exact HX3.out.setRow (Nat.le_refl _) _
          exact bodyPost_ret (v := .tuple #[.agg [.int .i64 p0, .bool p1, .int .i64 p2', .string p3, .string p4, .string p5, .slice p6 p7 p8, .slice p9 pa pb].toArray, .int .i64 0]) (results_cell Try.results35 rfl Try.agg27 Try.size27 rfl hcz) rfl ⟨v, 0, [.int .i64 p0, .bool p1, .int .i64 p2', .string p3, .string p4, .string p5, .slice p6 p7 p8, .slice p9 pa pb], rfl, HD.out, (HAt3.out.alike (w' := wz) fun b hb => hgz.block b (Nat.lt_of_lt_of_le hb.2 HSz.out) (fun e => by injection e with e; have := hb.1; omega)).mono fun b hb => ⟨by have := hb.1; omega, Nat.lt_of_lt_of_le hb.2 (Nat.le_trans HSz.out hgz.size)⟩, hxz⟩
        · have t2 : ((strOf ob).toList == (strOf bs).toList) = false := by
            rw [beq_eq_false_iff_ne]
            exact fun e => heq (strOf_inj (toList_inj e))
          have HD := Lib.hid (dec_other HL.out HRs.out (by rw [← HOb.out]; exact heq))
          clear heq
          go_wp2_with (first | refine wpList_str_g (.tmp 29) rfl A3 c3 ob rfl rfl HSrc3.out ?_ | refine wpList_str_g (.tmp 31) rfl A c bs rfl (by rw [← HN.out]; rfl) HSrcB.out ?_ | (refine wpList_store_whole rfl 27 (.tmp 2) _ rfl w.heap.size rfl zeroCells rfl Try.size27 rfl 27 zeroCells.toArray HR3.out rfl zero_one ?_; intro wz hwz; have HWz := Lib.hid hwz; clear hwz))
          have hcz : CellsAt wz w.heap.size 0 zeroCells := by rw [HWz.out]; exact cellsAt_setRow HR3.out rfl
          have hxz : Ext w wz := by rw [HWz.out]; exact HX3.out.setRow (Nat.le_refl _) _
          exact bodyPost_ret (v := .tuple #[.agg zeroCells.toArray, .int .i64 10]) (results_cell Try.results35 rfl Try.agg27 Try.size27 rfl hcz) rfl ⟨.zero, 10, zeroCells, rfl, HD.out, Val.zero_at _ _, hxz⟩
/-- a load of a struct, behind a guard that lets it go -/
theorem wpList_load_cells_g {P : Program} {ops : Array Oper} {rest : List Oper} {o : Oper} {a : Act} {w : World} {Q : Exit → Act → World → Prop} (ty : TypeId) (x : Operand) (ho : o.op = .load ty x) (hw : Region.wanted o (yielded ops a.tmps) = true)
    (b off : Nat) (hx : a.eval x = .pointer (some ⟨b, off, none⟩)) {cs : List Value} {n : Nat} (hA : ∀ w, (isAgg ty).run P w = .ok true w) (hz : ∀ w, (Go.sizeOf ty).run P w = .ok n w) (hn : cs.length = n)
    (h : CellsAt w b off cs) (hk : wpList P ops Q rest (a.put o.dst (.agg cs.toArray)) w) : wpList P ops Q (o :: rest) a w := by
  unfold wpList
  rw [if_pos hw]
  refine .inl ?_
  unfold Oper.wp execOp
  simp only [ho, hx, Instr.loadAt, Instr.sureAddr, Sem.run_bind, Sem.run_pure, Result.andThen_ok, run_loadVar_cells hA hz hn h]
  exact hk


/-! ### a law's argument that is a slice of bytes, or an array of four -/
section
open Go.ChangeShapes Go.WideShapes Go.ChangeAt Go.Deep
theorem byte_of {n : Int} (h : (Lit.int .u8 n).wf = true) : ∃ u : UInt8, n = (u.toNat : Int) := by
  have h : 0 ≤ n ∧ n ≤ 255 := by simpa [Lit.wf, IntKind.min, IntKind.max, IntKind.signed, IntKind.bits] using h
  refine ⟨UInt8.ofNat n.toNat, ?_⟩
  rw [UInt8.toNat_ofNat']
  omega
theorem bytes_of : ∀ l : List Int, (∀ n ∈ l, (Lit.int .u8 n).wf = true) → ∃ bs : List UInt8, l = bs.map fun b => (b.toNat : Int)
  | [], _ => ⟨[], rfl⟩
  | n :: r, h => by
    obtain ⟨u, rfl⟩ := byte_of (h n (by simp))
    obtain ⟨bs, rfl⟩ := bytes_of r fun m hm => h m (by simp [hm])
    exact ⟨u :: bs, rfl⟩
set_option maxRecDepth 100000 in
theorem read_bytes_arg {H : Type} {enc : TypeId × Value → H} {W : World} {base : Nat} {v : Value} {d : DataW H} {p : List MemPlace} (hv : Value.okWide Try.prog W .any base 47 v) (h : DataW.Trod enc Try.prog W 0 (fun _ => true) true 47 v d p) (hb : Rows.uptoBulk d ≤ 1048576) :
    ∃ bs : List UInt8, BytesIn W v bs ∧ bs.length ≤ 1073741824 := by
  obtain ⟨l, A, c, rfl, h1, h2, h3, h4, h5⟩ := read_ints_arg (k := .u8) Try.underlying47 Try.underlying5 (by kernel_rfl) hv h hb
  obtain ⟨bs, rfl⟩ := bytes_of l h4
  rw [List.length_map] at h1 h2 h5
  rw [maxLen_eq] at h3
  refine ⟨bs, ⟨A, c, by rw [List.length_map], h2, h3, fun h0 => ?_⟩, by unfold LIM at h1; omega⟩
  obtain ⟨b, o, e, hs, hc⟩ := h5 h0
  exact ⟨b, o, e, hs, by rw [List.map_map] at hc; exact hc⟩

theorem Try.arr4 : Try.prog.underlying 55 = some (.array 4 5) ∧ Try.prog.cellsOf 55 = 4 ∧ Try.prog.cellsOf 5 = 1 := ⟨by kernel_rfl, by kernel_rfl, by kernel_rfl⟩
set_option maxRecDepth 100000 in
theorem read_four_arg {H : Type} {enc : TypeId × Value → H} {W : World} {base : Nat} {v : Value} {d : DataW H} {p : List MemPlace} (hv : Value.okWide Try.prog W .any base 55 v) (h : DataW.Trod enc Try.prog W 0 (fun _ => true) true 55 v d p) :
    ∃ n0 n1 n2 n3 : UInt8, v = .agg #[.int .u8 n0.toNat, .int .u8 n1.toNat, .int .u8 n2.toNat, .int .u8 n3.toNat] := by
  obtain ⟨hu, h4, h1⟩ := Try.arr4
  simp only [Value.okWide, hu] at hv
  obtain ⟨cs, rfl, hn, _⟩ := hv
  obtain ⟨fuel, hf⟩ := h
  cases fuel with
  | zero => simp [DataW.trod] at hf
  | succ m =>
    rw [DataW.trod_step] at hf
    unfold DataW.trodStep at hf
    simp only [hu, Value.cells] at hf
    rw [if_pos (by rw [h4] at hn; simpa [h1, h4] using hn)] at hf
    obtain ⟨ys, hy, _⟩ := Option.map_eq_some_iff.1 hf
    rw [h1, show List.range 4 = [0, 1, 2, 3] from rfl] at hy
    simp only [List.mapM_cons, bind, Option.bind_eq_some_iff] at hy
    obtain ⟨y0, k0, r0, ⟨y1, k1, r1, ⟨y2, k2, r2, ⟨y3, k3, _⟩, _⟩, _⟩, _⟩ := hy
    obtain ⟨a0, e0, _, w0⟩ := DataW.trod_int Try.underlying5 k0
    obtain ⟨a1, e1, _, w1⟩ := DataW.trod_int Try.underlying5 k1
    obtain ⟨a2, e2, _, w2⟩ := DataW.trod_int Try.underlying5 k2
    obtain ⟨a3, e3, _, w3⟩ := DataW.trod_int Try.underlying5 k3
    obtain ⟨n0, rfl⟩ := byte_of w0
    obtain ⟨n1, rfl⟩ := byte_of w1
    obtain ⟨n2, rfl⟩ := byte_of w2
    obtain ⟨n3, rfl⟩ := byte_of w3
    refine ⟨n0, n1, n2, n3, ?_⟩
    rw [h4] at hn
    obtain ⟨cl⟩ := cs
    have hn : cl.length = 4 := hn
    match cl, hn with
    | [v0, v1, v2, v3], _ =>
      simp at e0 e1 e2 e3
      rw [e0, e1, e2, e3]
end
end Go.Proofs.Ytpkgkabcikmopaa
