/-
  One step of the program's evaluation: what asks for one value, for two. The conditions: what is handed in lies in memory as it should.
-/
import Derived.Test.YtebfoimbdljbmaaDoorCallJQ
namespace Go.Proofs.YtebfoimbdljbmaaDoor
open Go.RowKit
/-- what is asked of all of its kids' values -/
noncomputable def lastV (c : List Ent) (op : Int) (name : ByteArray) : List Val → Rs
  | [a] => oneV c op name a
  | a :: b :: _ => twoV c op a b
  | [] => no 1
theorem evOp_last {q : Req} {c : List Ent} {op : Int} {v : Val} {name : ByteArray} {names : List ByteArray} {rs : List Rs} (hb : badOp op rs.length names.length = false) (h : op ≠ 1 ∧ op ≠ 2 ∧ op ≠ 3 ∧ op ≠ 4 ∧ op ≠ 5 ∧ op ≠ 7 ∧ op ≠ 19 ∧ op ≠ 20) :
    evOp q c op v name names rs = if (allV rs).2 ≠ 0 then no (allV rs).2 else lastV c op name (allV rs).1 := by
  obtain ⟨h1, h2, h3, h4, h5, h6, h7, h8⟩ := h
  unfold evOp
  rw [if_neg (by simp [hb]), if_neg h1, if_neg h2, if_neg h3, if_neg (fun h => h.elim h4 fun h => h.elim h5 h6), if_neg h7, if_neg h8]
  generalize (allV rs).1 = l
  match l with
  | [] => rfl
  | [a] => rfl
  | a :: b :: r => rfl
theorem map_four {f : Operand → Value} {x y z u : Operand} {v1 v2 v3 v4 : Value} (h : f x = v1) (k : f y = v2) (l : f z = v3) (m : f u = v4) : #[x, y, z, u].map f = #[v1, v2, v3, v4] := by simp [h, k, l, m]
theorem Tryd.und24 : Tryd.prog.underlying 25 = some (.slice (Tryd.prog.elem 25)) := by kernel_rfl
theorem Tryd.siz24 : ∀ w, (Go.sizeOf (Tryd.prog.elem 25)).run Tryd.prog w = .ok 8 w := fun _ => by kernel_rfl
theorem Tryd.aggInt : ∀ w, (isAgg 3).run Tryd.prog w = .ok false w := fun _ => by kernel_rfl
theorem Tryd.fieldEx0 (g : Nat) : ∀ w, (Instr.fieldAt 31 (.pointer (some ⟨g, 0, none⟩)) 0).run Tryd.prog w = .ok (.pointer (some ⟨g, 0, none⟩)) w := by
  intro w; simp [Instr.fieldAt, go_sem]
set_option maxRecDepth 100000 in
set_option maxHeartbeats 4000000 in
theorem eval_two {A : Int → Prop} {q : Req} {c : List Ent} {n : Nat} (ih : EvOf A q c n) (e : Exp) (g : Nat) (w : World) (cs : List Value) (hop : e.op = 8 ∨ e.op = 9 ∨ e.op = 10 ∨ e.op = 11 ∨ e.op = 12 ∨ e.op = 13 ∨ e.op = 15 ∨ e.op = 21 ∨ e.op = 22 ∨ e.op = 23) (hgood : badOp e.op e.kids.length e.names.length = false) (hdo : ∀ (S : Nat → Prop) (a b : Val) (W : World) (ca cb : List Value), (∀ b, S b → b < W.heap.size) → Rk q c W g → Val.At S W a ca → Val.At S W b cb → Calls Tryd.prog 21 #[.pointer (some ⟨g, 0, none⟩), .int .i64 e.op, .agg ca.toArray, .agg cb.toArray] W (ValErrIn S (twoV c e.op a b).1 (twoV c e.op a b).2 W)) (hn : SizeOf.sizeOf e ≤ n + 1) (hl : e.fine A) (hr : Rk q c w g) (he : InX w e cs) :
    Calls Tryd.prog 10 #[.pointer (some ⟨g, 0, none⟩), .agg cs.toArray] w (ValErr (e.ev q c).1 (e.ev q c).2 w) := by
  have HXe := Lib.hid he
  rw [Exp.ev_def q c e]
  have hkn : ∀ x ∈ e.kids, SizeOf.sizeOf x ≤ n := fun x hx => by have := e.kid_size hx; omega
  have hkl : ∀ x ∈ e.kids, x.fine A := (Exp.fine_iff.1 hl).2.2
  have hvd : e.v.dep ≤ 1000000 := (Exp.fine_iff.1 hl).2.1
  obtain ⟨eo, ev, en, eks, ens⟩ := e
  obtain ⟨lk, lb, ln, ls, lt, lu, lA, ll, lc, lB, lm, ld, eK, ec, eN, ed, hcs, _, hev, hek, hen⟩ := Exp.At.shape he
  obtain rfl : cs = [.int .i64 eo, .int .i64 lk, .bool lb, .int .i64 ln, .string ls, .string lt, .string lu, .slice lA ll lc, .slice lB lm ld, .string en, .slice eK eks.length ec, .slice eN ens.length ed] := hcs
  have hev : InW w ev [.int .i64 lk, .bool lb, .int .i64 ln, .string ls, .string lt, .string lu, .slice lA ll lc, .slice lB lm ld] := hev
  have hek : expR.RowsAt (fun b => b < w.heap.size) w eks (.slice eK eks.length ec) := hek
  have hen : StrsAt (fun b => b < w.heap.size) w ens (.slice eN ens.length ed) := hen
  have HN : Hid (∀ x ∈ eks, SizeOf.sizeOf x ≤ n) := Lib.hid hkn
  have HL : Hid (∀ x ∈ eks, x.fine A) := Lib.hid hkl
  have HVd : Hid (ev.dep ≤ 1000000) := Lib.hid hvd
  have HEv := Lib.hid hev
  have HEk := Lib.hid hek
  have HEn := Lib.hid hen
  have HRk := Lib.hid hr
  have IH := Lib.hid ih
  obtain ⟨res, hres⟩ : ∃ res, evOp q c eo ev en ens (eks.map (Exp.ev q c)) = res := ⟨_, rfl⟩
  rw [show evOp q c (Exp.mk eo ev en eks ens).op (Exp.mk eo ev en eks ens).v (Exp.mk eo ev en eks ens).name (Exp.mk eo ev en eks ens).names ((Exp.mk eo ev en eks ens).kids.map (Exp.ev q c)) = res from hres]
  have HD := Lib.hid hres
  have hop : eo = 8 ∨ eo = 9 ∨ eo = 10 ∨ eo = 11 ∨ eo = 12 ∨ eo = 13 ∨ eo = 15 ∨ eo = 21 ∨ eo = 22 ∨ eo = 23 := hop
  have Hdo := Lib.hid hdo
  clear hdo
  have hgood : badOp eo eks.length ens.length = false := hgood
  have har : arity eo = 2 := by rcases hop with rfl | rfl | rfl | rfl | rfl | rfl | rfl | rfl | rfl | rfl <;> rfl
  have hlen : eks.length = 2 := by
    have h := hgood
    unfold badOp at h
    rw [har] at h
    simp at h
    omega
  have q3 : ((eks.length : Int) != 2) = false := by simp [hlen]
  have e1 : (eo == 1) = false := by simp; omega
  have e2 : (eo == 2) = false := by simp; omega
  have e3 : (eo == 3) = false := by simp; omega
  have e4 : (eo == 4) = false := by simp; omega
  have e5 : (eo == 5) = false := by simp; omega
  have e7 : (eo == 7) = false := by simp; omega
  have e19 : (eo == 19) = false := by simp; omega
  have e20 : (eo == 20) = false := by simp; omega
  obtain ⟨p0, p1, ps, px⟩ := heapA2 w (.cells #[.int .i64 eo, .int .i64 lk, .bool lb, .int .i64 ln, .string ls, .string lt, .string lu, .slice lA ll lc, .slice lB lm ld, .string en, .slice eK eks.length ec, .slice eN ens.length ed] 31) (.cells zeroCells.toArray 28)
  have HE0 := Lib.hid p0
  have HR0 := Lib.hid p1
  have HX0 := Lib.hid px
  clear p0 p1 ps px
  obtain ⟨⟨l, er⟩, hall⟩ : ∃ r, allV (eks.map (Exp.ev q c)) = r := ⟨_, rfl⟩
  have hll : er = 0 → l.length = 2 := fun h => by
    have := allV_len (l := eks.map (Exp.ev q c)); rw [hall] at this; simpa [hlen] using this h
  have hle : l.length ≤ 2 := by
    have := allV_le (eks.map (Exp.ev q c)); rw [hall] at this; simpa [hlen] using this
  have hD2 : res = if er ≠ 0 then no er else lastV c eo en l := by
    rw [← hres, evOp_last (by simpa using hgood) (by omega), hall]
  have HD2 := Lib.hid hD2
  have ha := allE_ok ih eks g ((w.alloc (.cells #[.int .i64 eo, .int .i64 lk, .bool lb, .int .i64 ln, .string ls, .string lt, .string lu, .slice lA ll lc, .slice lB lm ld, .string en, .slice eK eks.length ec, .slice eN ens.length ed] 31)).alloc (.cells zeroCells.toArray 28)) (.slice eK eks.length ec) HN.out HL.out (hr.ext HX0.out) ((hek.alike (Alike.of_ext HX0.out fun _ h => h)).mono fun b hb => Nat.lt_of_lt_of_le hb HX0.out.size)
  rw [hall] at ha
  have HAll := Lib.hid ha
  have HLL := Lib.hid hll
  have HLe : Hid (l.length ≤ LIM) := Lib.hid (by rw [LIM_eq]; omega)
  have Hop := Lib.hid hop
  clear hgood hlen hall hll hle hD2 ha hop
  have HK0 := Lib.hid (kidsE_ok eo ((w.alloc (.cells #[.int .i64 eo, .int .i64 lk, .bool lb, .int .i64 ln, .string ls, .string lt, .string lu, .slice lA ll lc, .slice lB lm ld, .string en, .slice eK eks.length ec, .slice eN ens.length ed] 31)).alloc (.cells zeroCells.toArray 28)))
  clear hn hl hr he hev hek hen ih hres hkn hkl hvd
  go_enter Tryd.func10, Tryd.ntmps10
  go_wp2_with fail
  refine HK0.out.mono ?_
  rintro e1 w1 ⟨rfl, rfl⟩
  rw [har]

  go_wp2_with fail
  refine HAll.out.mono ?_
  rintro e2 w2 ⟨v, rfl, ⟨vs, hown, hfl⟩, hx2⟩
  have HX2 := Lib.hid (HX0.out.trans hx2)
  have HR2 := Lib.hid ((hx2.block _ (Blk_lt HR0.out)).trans HR0.out)
  have HE2 := Lib.hid ((hx2.block _ (Blk_lt HE0.out)).trans HE0.out)
  have Hlow : Hid (w.heap.size + 2 ≤ w2.heap.size) := Lib.hid (by have := Blk_lt HR2.out; omega)
  have c0 : w2.cell? ⟨w.heap.size, 0, none⟩ = some (.int .i64 eo) := cell_of_row _ _ 0 _ _ _ HE2.out
  have hvals : ValsAt (fun x => w.heap.size + 2 ≤ x ∧ x < w2.heap.size) w2 l v := own_vals hown hfl HLe.out (fun x hx => ⟨Nat.le_trans (by simp) hx.1, hx.2.1⟩) (fun x hx => ⟨Nat.le_trans (by simp) (hown.lt x hx).1, (hown.lt x hx).2⟩)
  obtain ⟨A, cap, rfl, hv1, hv2⟩ := id hvals
  have HV2 := Lib.hid hv2
  clear hown hfl hx2 HX0 HR0 HE0 HAll hvals hv1 hv2
  by_cases h0 : er = 0
  case neg =>
    have t0 : (er != 0) = true := by simpa using h0
    have hh : res = (.zero, er) := by rw [HD2.out, if_pos h0]; rfl
    subst hh
    clear h0 c0
    go_wp2_with ((with_reducible refine at_store ?_; refine wpList_store_cells rfl 28 _ _ rfl (w.heap.size + 1) 0 rfl zeroCells rfl Tryd.size27 rfl 28 zeroCells.toArray HR2.out (by simp [zeroCells]) zero_one ?_))
    exact bodyPost_ret (v := .tuple #[.agg (show List Value from zeroCells).toArray, .int .i64 er]) (results_cell Tryd.results10 rfl Tryd.agg27 Tryd.size27 rfl (cellsAt_setRow HR2.out (by simp [zeroCells]))) rfl ⟨zeroCells, rfl, Val.zero_at _ _, HX2.out.setRow (by omega) _⟩
  subst h0
  have hl0 := HLL.out rfl
  obtain ⟨bb, oo, rfl, hbb, hrow⟩ := HV2.out (by omega)
  have qn : ((l.length : Int) == 1) = false := by rw [hl0]; rfl
  obtain ⟨a, b, hla⟩ : ∃ a b, l = [a, b] := by
    match l, hl0 with
    | [a, b], _ => exact ⟨a, b, rfl⟩
  have Hl := Lib.hid hl0
  have Hbb := Lib.hid hbb
  obtain ⟨ca, h8a, hca, hata⟩ := hrow.get (show l[0]? = some a by rw [hla]; rfl)
  have H8a := Lib.hid h8a
  have Hca := Lib.hid hca
  have Hata := Lib.hid hata
  obtain ⟨cb, h8b, hcb, hatb⟩ := hrow.get (show l[1]? = some b by rw [hla]; rfl)
  have H8b := Lib.hid h8b
  have Hcb := Lib.hid hcb
  have Hatb := Lib.hid hatb
  obtain ⟨z, ez⟩ := res
  have hR : twoV c eo a b = (z, ez) := by rw [HD2.out, if_neg (by simp), hla]; rfl
  have HCall : Hid (∀ W, GrownBy w2 W (some (w.heap.size + 1)) → Calls Tryd.prog 21 #[.pointer (some ⟨g, 0, none⟩), .int .i64 eo, .agg ca.toArray, .agg cb.toArray] W (ValErrIn (fun x => w.heap.size + 2 ≤ x ∧ x < w2.heap.size) z ez W)) := Lib.hid fun W hg => by
    have hxw : Ext w W := ext_apart HX2.out hg fun b e => by injection e with e; omega
    have hal : Alike (fun x => w.heap.size + 2 ≤ x ∧ x < w2.heap.size) w2 W := fun y hy => hg.block y hy.2 (fun e => by injection e with e; have := hy.1; omega)
    have hc := Hdo.out (fun x => w.heap.size + 2 ≤ x ∧ x < w2.heap.size) a b W ca cb (fun y hy => Nat.lt_of_lt_of_le hy.2 hg.size) (HRk.out.ext hxw) (Val.At.alike hal _ _ Hata.out) (Val.At.alike hal _ _ Hatb.out)
    rw [show twoV c (Exp.mk eo ev en eks ens).op a b = (z, ez) from hR] at hc
    exact hc
  clear hl0 hbb hrow hR hla h8a hca hata h8b hcb hatb
  go_wp2_with fail
  refine region_inv 14 (CallJ w2 (w.heap.size + 1) (w.heap.size + 2) 9 [(.pointer (some ⟨g, 0, none⟩)), (.pointer (some ⟨w.heap.size, 0, none⟩)), (.int .i64 eo), (.slice (some ⟨bb, oo, none⟩) l.length cap), (.pointer (some ⟨bb, oo + 0 * 8, none⟩)), (.agg ca.toArray), (.slice (some ⟨bb, oo, none⟩) l.length cap), (.pointer (some ⟨bb, oo + 1 * 8, none⟩)), (.agg cb.toArray)] z ez) (by kernel_rfl) (by kernel_rfl) (by kernel_rfl) (fun L L' xs W he h => h.congr 14 rfl he) (fun xs _ => CallJ.start HR2.out) (fun i o hi' ho L xs W a' hlen hJ hL hw hcl hold hat Q K hK => ?_) ?_
  · obtain ⟨_, hx, hp, _⟩ := id hJ
    rcases (by omega : i = 0 ∨ i = 1 ∨ i = 2 ∨ i = 3 ∨ i = 4 ∨ i = 5 ∨ i = 6 ∨ i = 7 ∨ i = 8 ∨ i = 9 ∨ i = 10 ∨ i = 11 ∨ i = 12 ∨ i = 13) with rfl | rfl | rfl | rfl | rfl | rfl | rfl | rfl | rfl | rfl | rfl | rfl | rfl | rfl <;> obtain rfl := Option.some.inj ho
    · exact wp_value2 (exec_move rfl (hold 0 (by kernel_rfl))) (hK _ _ (hJ.pre (by omega) hlen rfl))
    · exact wp_value2 (exec_field 31 _ 0 rfl (hold 3 (by kernel_rfl)) (Tryd.fieldEx0 _)) (hK _ _ (hJ.pre (by omega) hlen rfl))
    · exact wp_value2 (exec_load_one _ _ rfl w.heap.size 0 ((hat 1 115 (by omega) (by kernel_rfl)).trans (hp 1 (by omega) (hw 1 (by omega) (by kernel_rfl)))) Tryd.aggInt (cell_of_row _ _ 0 _ _ _ ((hx.block _ (Blk_lt HE2.out) (fun e => by injection e with e; omega)).trans HE2.out))) (hK _ _ (hJ.pre (by omega) hlen rfl))
    · exact wp_value2 (exec_move rfl (hold 7 (by kernel_rfl))) (hK _ _ (hJ.pre (by omega) hlen rfl))
    · exact wp_value2 (exec_index rfl ((hat 3 117 (by omega) (by kernel_rfl)).trans (hp 3 (by omega) (hw 3 (by omega) (by kernel_rfl)))) (show _ = Value.int .i64 ((0 : Nat) : Int) from rfl) Tryd.und24 Tryd.siz24 (by rw [Hl.out]; decide)) (hK _ _ (hJ.pre (by omega) hlen rfl))
    · exact wp_value2 (exec_load_cells 28 _ rfl bb (oo + 0 * 8) ((hat 4 118 (by omega) (by kernel_rfl)).trans (hp 4 (by omega) (hw 4 (by omega) (by kernel_rfl)))) Tryd.agg27 Tryd.size27 H8a.out (Hca.out.alike (S := (fun x => w.heap.size + 2 ≤ x ∧ x < w2.heap.size)) Hbb.out (fun y hy => hx.block y hy.2 (fun e => by injection e with e; have := hy.1; omega)))) (hK _ _ (hJ.pre (by omega) hlen rfl))
    · exact wp_value2 (exec_move rfl (hold 7 (by kernel_rfl))) (hK _ _ (hJ.pre (by omega) hlen rfl))
    · exact wp_value2 (exec_index rfl ((hat 6 120 (by omega) (by kernel_rfl)).trans (hp 6 (by omega) (hw 6 (by omega) (by kernel_rfl)))) (show _ = Value.int .i64 ((1 : Nat) : Int) from rfl) Tryd.und24 Tryd.siz24 (by rw [Hl.out]; decide)) (hK _ _ (hJ.pre (by omega) hlen rfl))
    · exact wp_value2 (exec_load_cells 28 _ rfl bb (oo + 1 * 8) ((hat 7 121 (by omega) (by kernel_rfl)).trans (hp 7 (by omega) (hw 7 (by omega) (by kernel_rfl)))) Tryd.agg27 Tryd.size27 H8b.out (Hcb.out.alike (S := (fun x => w.heap.size + 2 ≤ x ∧ x < w2.heap.size)) Hbb.out (fun y hy => hx.block y hy.2 (fun e => by injection e with e; have := hy.1; omega)))) (hK _ _ (hJ.pre (by omega) hlen rfl))
    · have f1 : L 10 = false := by cases e : L 10 with | false => rfl | true => exact absurd (hcl 10 9 (by omega) (by omega) e (by kernel_rfl)) (by rw [hL]; decide)
      have f2 : L 11 = false := by cases e : L 11 with | false => rfl | true => exact absurd (hcl 11 9 (by omega) (by omega) e (by kernel_rfl)) (by rw [hL]; decide)
      have f3 : L 12 = false := by cases e : L 12 with | false => rfl | true => exact absurd (hcl 12 10 (by omega) (by omega) e (by kernel_rfl)) (by rw [f1]; decide)
      have f4 : L 13 = false := by cases e : L 13 with | false => rfl | true => exact absurd (hcl 13 11 (by omega) (by omega) e (by kernel_rfl)) (by rw [f2]; decide)
      refine wp_enter2 (Φ := fun v W' => CallJ w2 (w.heap.size + 1) (w.heap.size + 2) 9 [(.pointer (some ⟨g, 0, none⟩)), (.pointer (some ⟨w.heap.size, 0, none⟩)), (.int .i64 eo), (.slice (some ⟨bb, oo, none⟩) l.length cap), (.pointer (some ⟨bb, oo + 0 * 8, none⟩)), (.agg ca.toArray), (.slice (some ⟨bb, oo, none⟩) l.length cap), (.pointer (some ⟨bb, oo + 1 * 8, none⟩)), (.agg cb.toArray)] z ez (done L 9) (xs.set 9 v) W') (exec_call Tryd.func21 rfl rfl rfl (map_four ((hat 0 114 (by omega) (by kernel_rfl)).trans (hp 0 (by omega) (hw 0 (by omega) (by kernel_rfl)))) ((hat 2 116 (by omega) (by kernel_rfl)).trans (hp 2 (by omega) (hw 2 (by omega) (by kernel_rfl)))) ((hat 5 119 (by omega) (by kernel_rfl)).trans (hp 5 (by omega) (hw 5 (by omega) (by kernel_rfl)))) ((hat 8 122 (by omega) (by kernel_rfl)).trans (hp 8 (by omega) (hw 8 (by omega) (by kernel_rfl)))))) ?_ (fun v W' h => hK _ _ h)
      refine (HCall.out W hx).mono ?_
      rintro e3 w3 ⟨cv, rfl, hv, hx3⟩
      refine ⟨_, rfl, ?_⟩
      have hw3 : w2.heap.size ≤ w3.heap.size := Nat.le_trans hx.size hx3.size
      exact hJ.call hlen f1 f2 f3 f4 hx3 (hv.mono fun y hy => hy.elim (fun h => ⟨h.1, Nat.lt_of_lt_of_le h.2 hw3⟩) fun h => ⟨by have := h.1; have := hx.size; have := Hlow.out; omega, h.2⟩)
    · obtain ⟨cv, h1, h2⟩ := hJ.ext1 hlen
      exact wp_value2 (exec_extract rfl ((hat 9 123 (by omega) (by kernel_rfl)).trans (h1 (hw 9 (by omega) (by kernel_rfl)))) rfl) (hK _ _ h2)
    · obtain ⟨cv, h1, h2⟩ := hJ.ext2 hlen
      exact wp_value2 (exec_extract rfl ((hat 9 123 (by omega) (by kernel_rfl)).trans (h1 (hw 9 (by omega) (by kernel_rfl)))) rfl) (hK _ _ h2)
    · have k6 := hw 10 (by omega) (by kernel_rfl)
      have k5 := hcl 10 9 (by omega) (by omega) k6 (by kernel_rfl)
      obtain ⟨cv, h1, h2, h3, h4, h5⟩ := hJ.store (by omega) k5 k6 hL
      exact wp_skipped (exec_store_whole rfl (hold 4 (by kernel_rfl)) ((hat 10 124 (by omega) (by kernel_rfl)).trans h1) Tryd.size27 h2 h4 (by rw [h2]; rfl) h3) (hK undef _ (h5 undef))
    · obtain ⟨cv, _, _, _, _, h7, _⟩ := id hJ
      exact wp_value2 (exec_assign rfl ((hat 11 125 (by omega) (by kernel_rfl)).trans (h7 (hw 11 (by omega) (by kernel_rfl))))) (hK _ _ (hJ.asg hlen))
  intro L xs W hxl hall hJ
  obtain ⟨cv, hx, hp, h5, h6, h7, h9, hz, hc⟩ := hJ
  match xs, hxl with
  | [y0, y1, y2, y3, y4, y5, y6, y7, y8, y9, y10, y11, y12, y13], _ =>
  have e9 : y13 = .int .i64 ez := h9 (hall 13 (by omega))
  have hrow := hc (hall 12 (by omega))
  have hv := (h5 (hall 9 (by omega))).2
  subst e9
  simp only [List.take, List.drop, putAll, Act.put, List.setIfInBounds_toArray, List.set_cons_zero, List.set_cons_succ]
  have HRw := Lib.hid hrow
  have HVv := Lib.hid hv
  have HXw : Hid (Ext w W) := Lib.hid (ext_apart HX2.out hx fun b e => by injection e with e; omega)
  clear hx hp h5 h6 h7 h9 hz hc hrow hv hall c0
  go_wp2_with fail
  exact bodyPost_ret (v := .tuple #[.agg cv.toArray, .int .i64 ez]) (results_cell Tryd.results10 rfl Tryd.agg27 Tryd.size27 HVv.out.length (cells_of_row HRw.out)) rfl ⟨cv, rfl, HVv.out.mono fun y hy => ⟨by have := hy.1; omega, hy.2⟩, HXw.out⟩
end Go.Proofs.YtebfoimbdljbmaaDoor
