/-
  EntityAttrs: what the statement's own function answers. The conditions: the values lie in memory as they should.
-/
import Derived.Test.YtjllolagcdjlnaaGreatLaw5aM
namespace Go.Proofs.YtjllolagcdjlnaaGreat
open Go.RowKit

theorem heap4 (w : World) (o0 o1 o2 o3 : Obj) : ((((w.alloc o0).alloc o1).alloc o2).alloc o3).heap[w.heap.size]? = some o0 ∧ ((((w.alloc o0).alloc o1).alloc o2).alloc o3).heap[w.heap.size + 1]? = some o1 ∧
    ((((w.alloc o0).alloc o1).alloc o2).alloc o3).heap[w.heap.size + 1 + 1]? = some o2 ∧ ((((w.alloc o0).alloc o1).alloc o2).alloc o3).heap[w.heap.size + 1 + 1 + 1]? = some o3 ∧
    ((((w.alloc o0).alloc o1).alloc o2).alloc o3).heap.size = w.heap.size + 4 ∧ Ext w ((((w.alloc o0).alloc o1).alloc o2).alloc o3) := by
  refine ⟨?_, ?_, ?_, ?_, by simp, ((((Ext.refl w).alloc _).alloc _).alloc _).alloc _⟩ <;> (simp only [World.alloc, Array.getElem?_push, Array.size_push]; (repeat rw [if_neg (by omega)]); simp)
def uV : Uid := (tV, ByteArray.empty)
theorem fitV : FitU uV := ⟨by rw [maxLen_eq]; decide, by rw [maxLen_eq]; decide⟩

structure AttrSt (a b : Val) (CA CB : List Value) (W : World) (gE gP gV : Nat) (ps : List Uid) (pa : Value) (ux : Uid) (W5 : World) : Prop where
  row : W5.heap[gE]? = some (.cells (entCells uB pa CA ++ entCells ux (.slice (some ⟨gP, 0, none⟩) 1 1) CB).toArray 37 (0, 0))
  par : W5.heap[gP]? = some (.cells [.string tU, .string tB].toArray 31 (0, 0))
  vee : W5.heap[gV]? = some (.cells [.string tU, .string tB].toArray 31 (0, 0))
  pars : uidR.RowsAt (fun b => b < W5.heap.size ∧ b ≠ gE) W5 ps pa
  ext : Ext W W5
theorem AttrSt.rows {a b : Val} {CA CB : List Value} {W W5 : World} {gE gP gV : Nat} {ps : List Uid} {pa : Value} {ux : Uid} (h : AttrSt a b CA CB W gE gP gV ps pa ux W5) (hu : FitU ux) (ha : Val.At (fun b => b < W.heap.size) W a CA) (hb : Val.At (fun b => b < W.heap.size) W b CB) :
    entR.RowsAt (fun b => b < W5.heap.size) W5 [⟨uB, ps, a⟩, ⟨ux, [uB], b⟩] (.slice (some ⟨gE, 0, none⟩) 2 2) := by
  have key : ∀ (x : Val) (cs : List Value), Val.At (fun b => b < W.heap.size) W x cs → Val.At (fun b => b < W5.heap.size) W5 x cs := fun x cs hx => (hx.alike (Alike.of_ext h.ext fun _ h => h)).mono fun b hb => Nat.lt_of_lt_of_le hb h.ext.size
  refine flat_block h.row ((Rep.Flat.single (R := entR) (x := ⟨uB, ps, a⟩) (cs := entCells uB pa CA) ⟨_, _, rfl, fitB, h.pars.mono fun b hb => hb.1, key _ _ ha⟩).append (Rep.Flat.single (R := entR) (x := ⟨ux, [uB], b⟩) (cs := entCells ux (.slice (some ⟨gP, 0, none⟩) 1 1) CB) ⟨_, _, rfl, hu, ?_, key _ _ hb⟩)) (Blk_lt h.row) (by rw [LIM_eq]; simp) rfl (by simp) (by rw [maxLen_eq]; omega)
  exact flat_block h.par (Rep.Flat.single (R := uidR) ⟨rfl, fitB⟩) (Blk_lt h.par) (by rw [LIM_eq]; simp) rfl (by simp) (by rw [maxLen_eq]; omega)
theorem AttrSt.twice {a b : Val} {CA CB : List Value} {W W5 W6 : World} {gE gP gV : Nat} {ps : List Uid} {pa : Value} {ux uy : Uid} (h : AttrSt a b CA CB W gE gP gV ps pa ux W5) (hg : GrownBy W5 W6 (some gE)) (hE : W.heap.size ≤ gE) (hP : gP ≠ gE) (hV : gV ≠ gE)
    (hrow : W6.heap[gE]? = some (.cells (entCells uB pa CA ++ entCells uy (.slice (some ⟨gP, 0, none⟩) 1 1) CB).toArray 37 (0, 0))) : AttrSt a b CA CB W gE gP gV ps pa uy W6 :=
  ⟨hrow, (hg.block _ (Blk_lt h.par) fun e => hP (Option.some.inj e)).trans h.par, (hg.block _ (Blk_lt h.vee) fun e => hV (Option.some.inj e)).trans h.vee,
    (h.pars.alike fun b hb => hg.block b hb.1 fun e => hb.2 (Option.some.inj e)).mono fun b hb => ⟨Nat.lt_of_lt_of_le hb.1 hg.size, hb.2⟩, ext_apart h.ext hg fun b e => by injection e with e; omega⟩
theorem AttrSt.missing {a b : Val} {CA CB : List Value} {W W4 W5 : World} {gE gP gV : Nat} {ps : List Uid} {pa : Value} {ux : Uid} (h : AttrSt a b CA CB W gE gP gV ps pa ux W4) (hg : GrownBy (W4.alloc (.cells [.string tV, .string ByteArray.empty].toArray 31)) W5 (some gE)) (hE : W.heap.size ≤ gE) (hP : gP ≠ gE) (hV : gV ≠ gE)
    (hrow : W5.heap[gE]? = some (.cells (entCells uB (.slice (some ⟨W4.heap.size, 0, none⟩) 1 1) CA ++ entCells ux (.slice (some ⟨gP, 0, none⟩) 1 1) CB).toArray 37 (0, 0))) : AttrSt a b CA CB W gE gP gV [uV] (.slice (some ⟨W4.heap.size, 0, none⟩) 1 1) ux W5 := by
  have hx : Ext W4 (W4.alloc (.cells [.string tV, .string ByteArray.empty].toArray 31)) := (Ext.refl W4).alloc _
  have hEl := Blk_lt h.row
  refine ⟨hrow, (hg.block _ (Blk_lt (((hx.block _ (Blk_lt h.par)).trans h.par))) fun e => hP (Option.some.inj e)).trans ((hx.block _ (Blk_lt h.par)).trans h.par), (hg.block _ (Blk_lt (((hx.block _ (Blk_lt h.vee)).trans h.vee))) fun e => hV (Option.some.inj e)).trans ((hx.block _ (Blk_lt h.vee)).trans h.vee), ?_, ext_apart (h.ext.trans hx) hg fun b e => by injection e with e; omega⟩
  have hb := heap_alloc_new W4 (.cells [.string tV, .string ByteArray.empty].toArray 31)
  have hb5 := (hg.block _ (Blk_lt hb) fun e => by injection e with e; omega).trans hb
  exact flat_block hb5 (Rep.Flat.single (R := uidR) (x := uV) ⟨rfl, fitV⟩) ⟨Blk_lt hb5, by omega⟩ (by rw [LIM_eq]; simp) rfl (by simp) (by rw [maxLen_eq]; omega)

set_option maxRecDepth 100000 in
set_option maxHeartbeats 4000000 in
theorem entityAttrs_walk (a b : Val) (W : World) (ca cb : List Value) (missing twice : Bool) (ha : Val.At (fun b => b < W.heap.size) W a ca) (hb : Val.At (fun b => b < W.heap.size) W b cb) :
    Calls Tryz.prog 5 #[.agg ca.toArray, .agg cb.toArray, .bool missing, .bool twice] W fun e W' => e = .returned (.bool true) ∧ Ext W W' := by
  obtain ⟨k1, b1, n1, t1, ut1, ui1, A1, l1, c1, A2, l2, c2, rfl⟩ := ha.shape
  obtain ⟨k2, b2, n2, t2, ut2, ui2, A3, l3, c3, A4, l4, c4, rfl⟩ := hb.shape
  have HA := Lib.hid ha
  have HB := Lib.hid hb
  clear ha hb
  go_enter Tryz.func5, Tryz.ntmps5
  go_wp2_with fail
  obtain ⟨m0, m1, msz, mx⟩ := heap2 W (.cells [.int .i64 k1, .bool b1, .int .i64 n1, .string t1, .string ut1, .string ui1, .slice A1 l1 c1, .slice A2 l2 c2].toArray 35) (.cells [.int .i64 k2, .bool b2, .int .i64 n2, .string t2, .string ut2, .string ui2, .slice A3 l3 c3, .slice A4 l4 c4].toArray 35)
  refine (awake5_ok _).mono ?_
  rintro e w1 ⟨rfl, hx1⟩
  have BA := Lib.hid ((hx1.block _ (Blk_lt m0)).trans m0)
  have BB := Lib.hid ((hx1.block _ (Blk_lt m1)).trans m1)
  have HX1 := Lib.hid (mx.trans hx1)
  have hz : W.heap.size + 1 < w1.heap.size := by have := hx1.size; omega
  clear m0 m1 msz mx hx1
  have HCA := Lib.hid (cells_of_row BA.out)
  have HCB := Lib.hid (cells_of_row BB.out)
  go_upto_region 7 with (first | refine wpList_load_cells rfl 35 _ rfl W.heap.size 0 rfl Tryz.agg27 Tryz.size27 rfl ((HCA.out.alloc (by omega) _).alloc (by simp; omega) _) ?_ | refine wpList_load_cells rfl 35 _ rfl (W.heap.size + 1) 0 rfl Tryz.agg27 Tryz.size27 rfl (((HCB.out.alloc (by omega) _).alloc (by simp; omega) _).alloc (by simp; omega) _) ?_)
  obtain ⟨w4, hw4⟩ : ∃ w4 : World, w4 = ((((w1.alloc (.cells [.string tU, .string tA].toArray 31)).alloc (.cells [.string tU, .string tB].toArray 31)).alloc (.cells [.string tU, .string tB].toArray 31)).alloc (.cells (entCells uB (.slice none 0 0) [.int .i64 k1, .bool b1, .int .i64 n1, .string t1, .string ut1, .string ui1, .slice A1 l1 c1, .slice A2 l2 c2] ++ entCells uA (.slice (some ⟨w1.heap.size + 1 + 1, 0, none⟩) 1 1) [.int .i64 k2, .bool b2, .int .i64 n2, .string t2, .string ut2, .string ui2, .slice A3 l3 c3, .slice A4 l4 c4]).toArray 37)) := ⟨_, rfl⟩
  change Code.wp _ _ _ _ ((((w1.alloc (.cells [.string tU, .string tA].toArray 31)).alloc (.cells [.string tU, .string tB].toArray 31)).alloc (.cells [.string tU, .string tB].toArray 31)).alloc (.cells (entCells uB (.slice none 0 0) [.int .i64 k1, .bool b1, .int .i64 n1, .string t1, .string ut1, .string ui1, .slice A1 l1 c1, .slice A2 l2 c2] ++ entCells uA (.slice (some ⟨w1.heap.size + 1 + 1, 0, none⟩) 1 1) [.int .i64 k2, .bool b2, .int .i64 n2, .string t2, .string ut2, .string ui2, .slice A3 l3 c3, .slice A4 l4 c4]).toArray 37))
  rw [← hw4]
  have h4 := heap4 w1 (.cells [.string tU, .string tA].toArray 31) (.cells [.string tU, .string tB].toArray 31) (.cells [.string tU, .string tB].toArray 31) (.cells (entCells uB (.slice none 0 0) [.int .i64 k1, .bool b1, .int .i64 n1, .string t1, .string ut1, .string ui1, .slice A1 l1 c1, .slice A2 l2 c2] ++ entCells uA (.slice (some ⟨w1.heap.size + 1 + 1, 0, none⟩) 1 1) [.int .i64 k2, .bool b2, .int .i64 n2, .string t2, .string ut2, .string ui2, .slice A3 l3 c3, .slice A4 l4 c4]).toArray 37)
  rw [← hw4] at h4
  obtain ⟨_, n1', n2', n3', nsz, nx⟩ := h4
  have HSt : Hid (AttrSt a b [.int .i64 k1, .bool b1, .int .i64 n1, .string t1, .string ut1, .string ui1, .slice A1 l1 c1, .slice A2 l2 c2] [.int .i64 k2, .bool b2, .int .i64 n2, .string t2, .string ut2, .string ui2, .slice A3 l3 c3, .slice A4 l4 c4] W (w1.heap.size + 1 + 1 + 1) (w1.heap.size + 1 + 1) (w1.heap.size + 1) [] (.slice none 0 0) uA w4) := Lib.hid ⟨n3', n2', n1', Rep.RowsAt.nil _ _, HX1.out.trans nx⟩
  have HgE : Hid (W.heap.size ≤ (w1.heap.size + 1 + 1 + 1)) := Lib.hid (by omega)
  clear n1' n2' n3' nsz nx hw4 hz BA BB HCA HCB
  cases missing with
  | true =>
    go_upto_region 9 with (refine wpList_store_slice rfl 29 _ _ rfl (w1.heap.size + 1 + 1 + 1) 2 rfl (some ⟨w4.heap.size, 0, none⟩) 1 1 rfl (fun _ => by kernel_rfl) 37 _ ((((Ext.refl w4).alloc (.cells [.string tV, .string ByteArray.empty].toArray 31)).block _ (Blk_lt HSt.out.row)).trans HSt.out.row) (by simp [entCells]) ?_; intro w5 hb5 hg5)
    have HSt2 := Lib.hid (HSt.out.missing hg5 HgE.out (by omega) (by omega) hb5)
    clear hb5 hg5 HSt
    have HSt := HSt2
    clear HSt2
    generalize hpa : (Value.slice (some ⟨w4.heap.size, 0, none⟩) 1 1) = pa at HSt
    clear hpa
    obtain ⟨w4, hw4⟩ : ∃ w4 : World, w4 = w5 := ⟨_, rfl⟩
    subst hw4
    cases twice with
    | true =>
      have v0 : w4.cell? ⟨w1.heap.size + 1, 0, none⟩ = some (.string ⟨#[85]⟩) := by rw [cell_of_row _ _ _ _ _ _ HSt.out.vee]; rfl
      have v1 : w4.cell? ⟨w1.heap.size + 1, 1, none⟩ = some (.string ⟨#[98]⟩) := by rw [cell_of_row _ _ _ _ _ _ HSt.out.vee]; rfl
      go_upto_region 11 with (refine wpList_store_part rfl 31 _ _ rfl (w1.heap.size + 1 + 1 + 1) 11 rfl [.string tU, .string tB] rfl Tryz.size23 rfl 37 _ HSt.out.row (by simp [entCells]) (by simp [Value.oneCell']) ?_; intro w5 hb5 hg5)
      have HSt2 := Lib.hid (HSt.out.twice (uy := uB) hg5 HgE.out (by omega) (by omega) hb5)
      clear hb5 hg5 v0 v1 HSt
      have HSt := HSt2
      clear HSt2
      have hl := (HSt.out).rows fitB HA.out HB.out
      have HX5 := Lib.hid (HSt.out).ext
      generalize hL : ([⟨uB, [uV], a⟩, ⟨uB, [uB], b⟩] : List Ent) = l at hl
      have hll : l.length = 2 := by rw [← hL]; rfl
      have HR := Lib.hid hl
      have Hll := Lib.hid hll
      clear hl hL hll HSt
      go_wp2_with fail
      refine (small_ok (fun b => b < w5.heap.size) l _ w5 (fun _ h => h) HR.out).mono ?_
      rintro e w6 ⟨r, hr, rfl, hx6⟩
      have HX6 := Lib.hid hx6
      cases r with
      | false =>
        clear hr hx6
        go_wp2_with fail
        go_ret
        exact ⟨rfl, HX5.out.trans HX6.out⟩
      | true =>
        have hsm := hr rfl
        have HP : Hid (∀ e ∈ l, e.ps.length ≤ 1000) := Lib.hid fun e he => by have := (hsm.each e he).1; omega
        have HD : Hid (∀ e ∈ l, e.av.dep ≤ 1000000) := Lib.hid hsm.lens.2.2
        clear hr hx6 hsm
        go_wp2_with fail
        refine (canE_ok (fun b => b < w5.heap.size) l _ w6 (fun b hb => Nat.lt_of_lt_of_le hb HX6.out.size) (HR.out.alike (Alike.of_ext HX6.out fun _ h => h)) (by rw [Hll.out]; omega) (fun e he => by have := HP.out e he; omega) HD.out).mono ?_
        rintro e w7 ⟨va, rfl, hva, hx7⟩
        have HVa := Lib.hid (ents_rows hva (Nat.le_trans (canonE_len l) (by rw [LIM_eq, Hll.out]; omega)))
        have HX7 := Lib.hid (HX6.out.trans hx7)
        clear hva hx7
        go_wp2_with fail
        refine (canon5_ok (fun b => b < w5.heap.size) l _ w7 (fun b hb => Nat.lt_of_lt_of_le hb HX7.out.size) (HR.out.alike (Alike.of_ext HX7.out fun _ h => h)) (by rw [Hll.out]; omega) HP.out HD.out).mono ?_
        rintro e w8 ⟨vb, rfl, hvb, hx8⟩
        have HVb := Lib.hid hvb
        have HX8 := Lib.hid (HX7.out.trans hx8)
        have HVa8 := Lib.hid ((HVa.out.alike (Alike.of_ext hx8 fun _ h => h)).mono fun b hb => Nat.lt_of_lt_of_le hb hx8.size)
        clear hvb hx8
        go_wp2_with fail
        refine (wholeE_ok (fun b => b < w8.heap.size) (canonE l).1 _ _ w8 (fun _ h => h) HVa8.out HVb.out).mono ?_
        rintro e w9 ⟨rfl, hx9⟩
        have HX9 := Lib.hid hx9
        clear hx9
        go_wp2_with fail
        go_ret
        exact ⟨rfl, HX5.out.trans (HX8.out.trans HX9.out)⟩
    | false =>
      obtain ⟨w5, hw5⟩ : ∃ w5 : World, w5 = w4 := ⟨_, rfl⟩
      subst hw5
      have hl := (HSt.out).rows fitA HA.out HB.out
      have HX5 := Lib.hid (HSt.out).ext
      generalize hL : ([⟨uB, [uV], a⟩, ⟨uA, [uB], b⟩] : List Ent) = l at hl
      have hll : l.length = 2 := by rw [← hL]; rfl
      have HR := Lib.hid hl
      have Hll := Lib.hid hll
      clear hl hL hll HSt
      go_wp2_with fail
      refine (small_ok (fun b => b < w5.heap.size) l _ w5 (fun _ h => h) HR.out).mono ?_
      rintro e w6 ⟨r, hr, rfl, hx6⟩
      have HX6 := Lib.hid hx6
      cases r with
      | false =>
        clear hr hx6
        go_wp2_with fail
        go_ret
        exact ⟨rfl, HX5.out.trans HX6.out⟩
      | true =>
        have hsm := hr rfl
        have HP : Hid (∀ e ∈ l, e.ps.length ≤ 1000) := Lib.hid fun e he => by have := (hsm.each e he).1; omega
        have HD : Hid (∀ e ∈ l, e.av.dep ≤ 1000000) := Lib.hid hsm.lens.2.2
        clear hr hx6 hsm
        go_wp2_with fail
        refine (canE_ok (fun b => b < w5.heap.size) l _ w6 (fun b hb => Nat.lt_of_lt_of_le hb HX6.out.size) (HR.out.alike (Alike.of_ext HX6.out fun _ h => h)) (by rw [Hll.out]; omega) (fun e he => by have := HP.out e he; omega) HD.out).mono ?_
        rintro e w7 ⟨va, rfl, hva, hx7⟩
        have HVa := Lib.hid (ents_rows hva (Nat.le_trans (canonE_len l) (by rw [LIM_eq, Hll.out]; omega)))
        have HX7 := Lib.hid (HX6.out.trans hx7)
        clear hva hx7
        go_wp2_with fail
        refine (canon5_ok (fun b => b < w5.heap.size) l _ w7 (fun b hb => Nat.lt_of_lt_of_le hb HX7.out.size) (HR.out.alike (Alike.of_ext HX7.out fun _ h => h)) (by rw [Hll.out]; omega) HP.out HD.out).mono ?_
        rintro e w8 ⟨vb, rfl, hvb, hx8⟩
        have HVb := Lib.hid hvb
        have HX8 := Lib.hid (HX7.out.trans hx8)
        have HVa8 := Lib.hid ((HVa.out.alike (Alike.of_ext hx8 fun _ h => h)).mono fun b hb => Nat.lt_of_lt_of_le hb hx8.size)
        clear hvb hx8
        go_wp2_with fail
        refine (wholeE_ok (fun b => b < w8.heap.size) (canonE l).1 _ _ w8 (fun _ h => h) HVa8.out HVb.out).mono ?_
        rintro e w9 ⟨rfl, hx9⟩
        have HX9 := Lib.hid hx9
        clear hx9
        go_wp2_with fail
        go_ret
        exact ⟨rfl, HX5.out.trans (HX8.out.trans HX9.out)⟩
  | false =>
    cases twice with
    | true =>
      have v0 : w4.cell? ⟨w1.heap.size + 1, 0, none⟩ = some (.string ⟨#[85]⟩) := by rw [cell_of_row _ _ _ _ _ _ HSt.out.vee]; rfl
      have v1 : w4.cell? ⟨w1.heap.size + 1, 1, none⟩ = some (.string ⟨#[98]⟩) := by rw [cell_of_row _ _ _ _ _ _ HSt.out.vee]; rfl
      go_upto_region 11 with (refine wpList_store_part rfl 31 _ _ rfl (w1.heap.size + 1 + 1 + 1) 11 rfl [.string tU, .string tB] rfl Tryz.size23 rfl 37 _ HSt.out.row (by simp [entCells]) (by simp [Value.oneCell']) ?_; intro w5 hb5 hg5)
      have HSt2 := Lib.hid (HSt.out.twice (uy := uB) hg5 HgE.out (by omega) (by omega) hb5)
      clear hb5 hg5 v0 v1 HSt
      have HSt := HSt2
      clear HSt2
      have hl := (HSt.out).rows fitB HA.out HB.out
      have HX5 := Lib.hid (HSt.out).ext
      generalize hL : ([⟨uB, [], a⟩, ⟨uB, [uB], b⟩] : List Ent) = l at hl
      have hll : l.length = 2 := by rw [← hL]; rfl
      have HR := Lib.hid hl
      have Hll := Lib.hid hll
      clear hl hL hll HSt
      go_wp2_with fail
      refine (small_ok (fun b => b < w5.heap.size) l _ w5 (fun _ h => h) HR.out).mono ?_
      rintro e w6 ⟨r, hr, rfl, hx6⟩
      have HX6 := Lib.hid hx6
      cases r with
      | false =>
        clear hr hx6
        go_wp2_with fail
        go_ret
        exact ⟨rfl, HX5.out.trans HX6.out⟩
      | true =>
        have hsm := hr rfl
        have HP : Hid (∀ e ∈ l, e.ps.length ≤ 1000) := Lib.hid fun e he => by have := (hsm.each e he).1; omega
        have HD : Hid (∀ e ∈ l, e.av.dep ≤ 1000000) := Lib.hid hsm.lens.2.2
        clear hr hx6 hsm
        go_wp2_with fail
        refine (canE_ok (fun b => b < w5.heap.size) l _ w6 (fun b hb => Nat.lt_of_lt_of_le hb HX6.out.size) (HR.out.alike (Alike.of_ext HX6.out fun _ h => h)) (by rw [Hll.out]; omega) (fun e he => by have := HP.out e he; omega) HD.out).mono ?_
        rintro e w7 ⟨va, rfl, hva, hx7⟩
        have HVa := Lib.hid (ents_rows hva (Nat.le_trans (canonE_len l) (by rw [LIM_eq, Hll.out]; omega)))
        have HX7 := Lib.hid (HX6.out.trans hx7)
        clear hva hx7
        go_wp2_with fail
        refine (canon5_ok (fun b => b < w5.heap.size) l _ w7 (fun b hb => Nat.lt_of_lt_of_le hb HX7.out.size) (HR.out.alike (Alike.of_ext HX7.out fun _ h => h)) (by rw [Hll.out]; omega) HP.out HD.out).mono ?_
        rintro e w8 ⟨vb, rfl, hvb, hx8⟩
        have HVb := Lib.hid hvb
        have HX8 := Lib.hid (HX7.out.trans hx8)
        have HVa8 := Lib.hid ((HVa.out.alike (Alike.of_ext hx8 fun _ h => h)).mono fun b hb => Nat.lt_of_lt_of_le hb hx8.size)
        clear hvb hx8
        go_wp2_with fail
        refine (wholeE_ok (fun b => b < w8.heap.size) (canonE l).1 _ _ w8 (fun _ h => h) HVa8.out HVb.out).mono ?_
        rintro e w9 ⟨rfl, hx9⟩
        have HX9 := Lib.hid hx9
        clear hx9
        go_wp2_with fail
        go_ret
        exact ⟨rfl, HX5.out.trans (HX8.out.trans HX9.out)⟩
    | false =>
      obtain ⟨w5, hw5⟩ : ∃ w5 : World, w5 = w4 := ⟨_, rfl⟩
      subst hw5
      have hl := (HSt.out).rows fitA HA.out HB.out
      have HX5 := Lib.hid (HSt.out).ext
      generalize hL : ([⟨uB, [], a⟩, ⟨uA, [uB], b⟩] : List Ent) = l at hl
      have hll : l.length = 2 := by rw [← hL]; rfl
      have HR := Lib.hid hl
      have Hll := Lib.hid hll
      clear hl hL hll HSt
      go_wp2_with fail
      refine (small_ok (fun b => b < w5.heap.size) l _ w5 (fun _ h => h) HR.out).mono ?_
      rintro e w6 ⟨r, hr, rfl, hx6⟩
      have HX6 := Lib.hid hx6
      cases r with
      | false =>
        clear hr hx6
        go_wp2_with fail
        go_ret
        exact ⟨rfl, HX5.out.trans HX6.out⟩
      | true =>
        have hsm := hr rfl
        have HP : Hid (∀ e ∈ l, e.ps.length ≤ 1000) := Lib.hid fun e he => by have := (hsm.each e he).1; omega
        have HD : Hid (∀ e ∈ l, e.av.dep ≤ 1000000) := Lib.hid hsm.lens.2.2
        clear hr hx6 hsm
        go_wp2_with fail
        refine (canE_ok (fun b => b < w5.heap.size) l _ w6 (fun b hb => Nat.lt_of_lt_of_le hb HX6.out.size) (HR.out.alike (Alike.of_ext HX6.out fun _ h => h)) (by rw [Hll.out]; omega) (fun e he => by have := HP.out e he; omega) HD.out).mono ?_
        rintro e w7 ⟨va, rfl, hva, hx7⟩
        have HVa := Lib.hid (ents_rows hva (Nat.le_trans (canonE_len l) (by rw [LIM_eq, Hll.out]; omega)))
        have HX7 := Lib.hid (HX6.out.trans hx7)
        clear hva hx7
        go_wp2_with fail
        refine (canon5_ok (fun b => b < w5.heap.size) l _ w7 (fun b hb => Nat.lt_of_lt_of_le hb HX7.out.size) (HR.out.alike (Alike.of_ext HX7.out fun _ h => h)) (by rw [Hll.out]; omega) HP.out HD.out).mono ?_
        rintro e w8 ⟨vb, rfl, hvb, hx8⟩
        have HVb := Lib.hid hvb
        have HX8 := Lib.hid (HX7.out.trans hx8)
        have HVa8 := Lib.hid ((HVa.out.alike (Alike.of_ext hx8 fun _ h => h)).mono fun b hb => Nat.lt_of_lt_of_le hb hx8.size)
        clear hvb hx8
        go_wp2_with fail
        refine (wholeE_ok (fun b => b < w8.heap.size) (canonE l).1 _ _ w8 (fun _ h => h) HVa8.out HVb.out).mono ?_
        rintro e w9 ⟨rfl, hx9⟩
        have HX9 := Lib.hid hx9
        clear hx9
        go_wp2_with fail
        go_ret
        exact ⟨rfl, HX5.out.trans (HX8.out.trans HX9.out)⟩
end Go.Proofs.YtjllolagcdjlnaaGreat
