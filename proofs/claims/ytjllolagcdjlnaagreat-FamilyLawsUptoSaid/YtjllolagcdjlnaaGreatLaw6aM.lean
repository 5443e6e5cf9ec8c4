/-
  FamilyLoads: what the statement's own function answers. The conditions: the arguments lie in memory as they should.
-/
import Derived.Test.YtjllolagcdjlnaaGreatAwake6M
import Derived.Test.YtjllolagcdjlnaaGreatSmall6M
import Derived.Test.YtjllolagcdjlnaaGreatLaw5aM
namespace Go.Proofs.YtjllolagcdjlnaaGreat
open Go.RowKit

set_option maxRecDepth 100000 in
set_option maxHeartbeats 4000000 in
theorem getN_ok (u : Uid) (w : World) : Calls Tryz.prog 23 #[.pointer none, valU u] w fun e w' => e = .returned (.tuple #[.agg zeroEnt.toArray, .bool false]) ∧ Ext w w' := by
  obtain ⟨t, i⟩ := u
  unfold valU
  go_enter Tryz.func23, Tryz.ntmps23
  go_wp2_with fail
  refine bodyPost_ret (v := .tuple #[.agg zeroEnt.toArray, .bool false]) (results_cell Tryz.results23 rfl Tryz.agg60 Tryz.size60 rfl ?_) rfl ⟨rfl, ((Ext.refl w).alloc _).alloc _⟩
  have h2 := heap2 w (.cells #[.string t, .string i] 31) (.cells zeroEnt.toArray 37)
  exact cells_of_row h2.2.1
theorem exec_add1 {P : Program} {o : Oper} {a : Act} {w : World} {t t' : TypeId} {x : Operand} {d : Nat} (ho : o.op = .binOp .add t x (.const (.int .i64 1)) t') (hx : a.eval x = .int .i64 d) (hd : d ≤ 1000000) : (execOp a.eval o).run P w = .ok (.value (.int .i64 ((d + 1 : Nat) : Int))) w := by
  have hw : IntKind.i64.wrap ((d : Int) + 1) = ((d + 1 : Nat) : Int) := by rw [show (d : Int) + 1 = ((d + 1 : Nat) : Int) by omega]; exact IntWalk.i64_in _ (by omega)
  have hc : a.eval (.const (.int .i64 1)) = .int .i64 1 := rfl
  unfold execOp
  simp only [ho, hx, hc]
  simp [go_sem, hw]
theorem exec_cut_one {P : Program} {o : Oper} {a : Act} {w : World} (t : TypeId) (x lo hi : Operand) (ho : o.op = .slice t x (some lo) (some hi) none) (size : Nat) (ht : P.underlying t = some (.slice (P.elem t))) (hz : ∀ w, (Go.sizeOf (P.elem t)).run P w = .ok size w)
    {b off n cap p : Nat} (hx : a.eval x = .slice (some ⟨b, off, none⟩) n cap) (hl : a.eval lo = .int .i64 p) (hh : a.eval hi = .int .i64 ((p + 1 : Nat) : Int)) (hp : p < cap) : (execOp a.eval o).run P w = .ok (.value (.slice (some ⟨b, off + p * size, none⟩) 1 (cap - p))) w := by
  have hrun := run_slice_lh (P := P) (w := w) t (some ⟨b, off, none⟩) n cap ht .i64 .i64 (p : Int) ((p + 1 : Nat) : Int) (by omega) (by omega) (by omega)
  rw [hz w] at hrun
  unfold execOp
  simp only [ho, Option.map, hx, hl, hh, Instr.sliceAt, run_underlying ht, Sem.run_bind, Result.andThen_ok, hrun]
  have h1 : ((p : Int)).toNat = p := by omega
  have h2 : (((p + 1 : Nat) : Int)).toNat = p + 1 := by omega
  simp only [sliced, h1, h2]
  rw [if_neg (by omega)]
  simp only [Option.map, Addr.add]
  have h3 : p + 1 - p = 1 := by omega
  rw [h3]
  by_cases h : p * size = 0
  · simp [h]
  · simp [h]
def Stage6 (w0 : World) (cs : List Value) : List Value → World → Prop
  | [], W => Ext w0 W
  | [v], W => ∃ W1, Ext w0 W1 ∧ v = .slice (some ⟨W1.heap.size, 0, none⟩) 1 1 ∧ W = W1.alloc (.cells cs.toArray 37)
  | [_, r], W => Ext w0 W ∧ r = .bool true
  | _, _ => False
theorem Stage6.ext {w0 : World} {cs : List Value} {vs : List Value} {W : World} (h : Stage6 w0 cs vs W) : Ext w0 W := by
  match vs, h with
  | [], h => exact h
  | [_], ⟨W1, h1, _, h2⟩ => exact h2 ▸ h1.alloc _
  | [_, _], h => exact h.1
  | _ :: _ :: _ :: _, h => exact h.elim

set_option maxRecDepth 100000 in
set_option maxHeartbeats 4000000 in
theorem familyLoads_walk (l : List Ent) (u : Uid) (W : World) (v : Value) (hl : entR.RowsAt (fun b => b < W.heap.size) W l v) (hu : FitU u) :
    Calls Tryz.prog 6 #[v, valU u] W fun e W' => e = .returned (.bool true) ∧ Ext W W' := by
  have HR := Lib.hid hl
  have HU := Lib.hid hu
  obtain ⟨A, cap, rfl, ⟨hl0, hl1, hl2⟩, hlr⟩ := hl
  rw [maxLen_eq] at hl2
  obtain ⟨t, i⟩ := u
  unfold valU
  clear hlr hl0 hu
  go_enter Tryz.func6, Tryz.ntmps6
  go_wp2_with fail
  refine (awake6_ok _).mono ?_
  rintro e w1 ⟨rfl, hx1⟩
  have HX1 := Lib.hid (((Ext.refl W).alloc _).trans hx1)
  have HB1 : Hid (w1.heap[W.heap.size]? = some (.cells #[.string t, .string i] 31 (0, 0))) := Lib.hid ((hx1.block _ (by simp)).trans (heap_alloc_new _ _))
  clear hx1
  go_wp2_with fail
  refine (small6_ok (fun b => b < W.heap.size) l _ w1 (fun b hb => Nat.lt_of_lt_of_le hb HX1.out.size) (HR.out.alike (Alike.of_ext HX1.out fun _ h => h))).mono ?_
  rintro e w2 ⟨r, hr, rfl, hx2⟩
  have HX2 := Lib.hid (HX1.out.trans hx2)
  have HB2 := Lib.hid ((hx2.block _ (Blk_lt HB1.out)).trans HB1.out)
  cases r with
  | false =>
    clear hr hx2
    go_wp2_with fail
    go_ret
    exact ⟨rfl, HX2.out⟩
  | true =>
    have hsm := hr rfl
    have hl20 := hsm.len
    have HP : Hid (∀ e ∈ l, e.ps.length ≤ 1000) := Lib.hid fun e he => by have := (hsm.each e he).1; omega
    have HD : Hid (∀ e ∈ l, e.av.dep ≤ 1000000) := Lib.hid hsm.lens.2.2
    clear hr hx2 hsm HB1
    go_wp2_with fail
    refine (load_ok (fun b => b < W.heap.size) l _ w2 (fun b hb => Nat.lt_of_lt_of_le hb HX2.out.size) (HR.out.alike (Alike.of_ext HX2.out fun _ h => h)) (by omega) HP.out HD.out).mono ?_
    rintro e w3 ⟨hbad, hgood, hx3⟩
    have HX3 := Lib.hid (HX2.out.trans hx3)
    have HB3 := Lib.hid ((hx3.block _ (Blk_lt HB2.out)).trans HB2.out)
    by_cases hg : Good l
    · have hc0 := canonE_iff.2 hg
      obtain ⟨g, rfl, hfam, hgs⟩ := hgood hc0
      have HG := Lib.hid hg
      have HFam := Lib.hid hfam
      have HC0 := Lib.hid hc0
      clear hbad hgood hfam hgs hc0 hx3 HB2
      go_wp2_with fail
      refine (canon5_ok (fun b => b < W.heap.size) l _ w3 (fun b hb => Nat.lt_of_lt_of_le hb HX3.out.size) (HR.out.alike (Alike.of_ext HX3.out fun _ h => h)) (by omega) HP.out HD.out).mono ?_
      rintro e w4 ⟨vb, rfl, hvb, hx4⟩
      rw [HC0.out]
      have hcl : (canonE l).1.length ≤ 1000 := by rw [canonE_length hg]; omega
      obtain ⟨c, hcc⟩ : ∃ c, c = (canonE l).1 := ⟨_, rfl⟩
      rw [← hcc] at hvb hcl HFam
      have Hcc := Lib.hid hcc
      have HVb := Lib.hid hvb
      have HX4 := Lib.hid (HX3.out.trans hx4)
      have HFam4 := Lib.hid (HFam.out.ext hx4)
      have HB4 := Lib.hid ((hx4.block _ (Blk_lt HB3.out)).trans HB3.out)
      obtain ⟨Ab, cb, rfl, ⟨hb0, hb1, hb2⟩, _⟩ := hvb
      rw [maxLen_eq] at hb2
      clear hx4 HFam HB3 hb0 hcc hg
      have k0 : w4.cell? ⟨W.heap.size, 0, none⟩ = some (.string t) := cell_of_row _ _ 0 _ _ _ HB4.out
      have k1 : w4.cell? ⟨W.heap.size, 1, none⟩ = some (.string i) := cell_of_row _ _ 1 _ _ _ HB4.out
      go_wp2_with fail
      refine (getF_ok g c (t, i) w4 HU.out HFam4.out).mono ?_
      rintro e w5 ⟨cs5, b5, rfl, hcs5, hx5⟩
      rcases hcs5 with ⟨hn, rfl, rfl⟩ | ⟨ix, x, hix, hcx, rfl, hat⟩
      · have HN := Lib.hid hn
        clear hn
        rw [show zeroEnt = [.string ByteArray.empty, .string ByteArray.empty, .slice none 0 0, .int .i64 0, .bool false, .int .i64 0, .string ByteArray.empty, .string ByteArray.empty, .string ByteArray.empty, .slice none 0 0, .slice none 0 0] from rfl]
        have HX5 := Lib.hid (HX4.out.trans hx5)
        have HB5 := Lib.hid ((hx5.block _ (Blk_lt HB4.out)).trans HB4.out)
        have HVb5 := Lib.hid ((HVb.out.alike (Alike.of_ext hx5 fun _ h => h)).mono fun b hb => Nat.lt_of_lt_of_le hb hx5.size)
        have HFam5 := Lib.hid (HFam4.out.ext hx5)
        clear k0 k1 hx5
        have z0 : ∀ o, (w5.alloc o).cell? ⟨W.heap.size, 0, none⟩ = some (.string t) := fun o => (World.cell?_of_block (w := w5) (heap_alloc_old _ _ (Blk_lt HB5.out))).trans (cell_of_row _ _ 0 _ _ _ HB5.out)
        have z1 : ∀ o, (w5.alloc o).cell? ⟨W.heap.size, 1, none⟩ = some (.string i) := fun o => (World.cell?_of_block (w := w5) (heap_alloc_old _ _ (Blk_lt HB5.out))).trans (cell_of_row _ _ 1 _ _ _ HB5.out)
        go_wp2_with fail
        clear z0 z1
        refine (find5_ok (fun b => b < w5.heap.size) c _ (t, i) (w5.alloc (.cells #[.string ByteArray.empty, .string ByteArray.empty, .slice none 0 0, .int .i64 0, .bool false, .int .i64 0, .string ByteArray.empty, .string ByteArray.empty, .string ByteArray.empty, .slice none 0 0, .slice none 0 0] 37)) (fun b hb => by simp; omega) (HVb5.out.alike fun b hb => heap_alloc_old _ _ hb)).mono ?_
        rintro e w6 ⟨rfl, hx6⟩
        rw [findI_none HN.out]
        have HE6 : Hid (w6.heap[w5.heap.size]? = some (.cells #[.string ByteArray.empty, .string ByteArray.empty, .slice none 0 0, .int .i64 0, .bool false, .int .i64 0, .string ByteArray.empty, .string ByteArray.empty, .string ByteArray.empty, .slice none 0 0, .slice none 0 0] 37 (0, 0))) := Lib.hid ((hx6.block _ (by simp)).trans (heap_alloc_new _ _))
        have hx56 := ((Ext.refl w5).alloc _).trans hx6
        have HX6 := Lib.hid (HX5.out.trans hx56)
        have HVb6 := Lib.hid ((HVb5.out.alike (Alike.of_ext hx56 fun _ h => h)).mono fun b hb => Nat.lt_of_lt_of_le hb hx56.size)
        have HFam6 := Lib.hid (HFam5.out.ext hx56)
        clear hx6 hx56
        go_wp2_with fail
        refine (allF_ok g c w6 HFam6.out).mono ?_
        rintro e w7 ⟨v7, rfl, ho7, hx7⟩
        have HRow7 := Lib.hid ((ho7.rows (by rw [LIM_eq]; omega)).mono fun b hb => hb.lt)
        obtain ⟨A7, c7, rfl⟩ := ho7.shape
        have HX7 := Lib.hid (HX6.out.trans hx7)
        have HVb7 := Lib.hid ((HVb6.out.alike (Alike.of_ext hx7 fun _ h => h)).mono fun b hb => Nat.lt_of_lt_of_le hb hx7.size)
        have HE7 := Lib.hid ((hx7.block _ (Blk_lt HE6.out)).trans HE6.out)
        clear ho7 hx7
        go_wp2_with fail
        refine (wholeE_ok (fun b => b < w7.heap.size) c _ _ w7 (fun _ h => h) HRow7.out HVb7.out).mono ?_
        rintro e w8 ⟨rfl, hx8⟩
        have HX8 := Lib.hid (HX7.out.trans hx8)
        have HE8 := Lib.hid ((hx8.block _ (Blk_lt HE7.out)).trans HE7.out)
        clear hx8
        have e0 : w8.cell? ⟨w5.heap.size, 0, none⟩ = some (.string ByteArray.empty) := cell_of_row _ _ 0 _ _ _ HE8.out
        have e1' : w8.cell? ⟨w5.heap.size, 1, none⟩ = some (.string ByteArray.empty) := cell_of_row _ _ 1 _ _ _ HE8.out
        have e2 : w8.cell? ⟨w5.heap.size, 2, none⟩ = some (.slice none 0 0) := cell_of_row _ _ 2 _ _ _ HE8.out
        go_wp2_with fail
        go_ret
        exact ⟨rfl, HX8.out⟩
      · have hixl : ix < c.length := by have := idx_lt hix; simpa using this
        have hatw : entR.At (fun b => b < w5.heap.size) w5 x cs5 := entR.mono hat fun b hb => hb.lt
        have HAt := Lib.hid hatw
        have HIx := Lib.hid hix
        have HCx := Lib.hid hcx
        obtain ⟨E1, l1, d1, q1, q2, q3, q4, q5, q6, E2, l2, d2, E3, l3, d3, rfl⟩ := ent_shape hat
        have HX5 := Lib.hid (HX4.out.trans hx5)
        have HB5 := Lib.hid ((hx5.block _ (Blk_lt HB4.out)).trans HB4.out)
        have HVb5 := Lib.hid ((HVb.out.alike (Alike.of_ext hx5 fun _ h => h)).mono fun b hb => Nat.lt_of_lt_of_le hb hx5.size)
        have HFam5 := Lib.hid (HFam4.out.ext hx5)
        clear k0 k1 hx5 hat hatw hix hcx
        have z0 : ∀ o, (w5.alloc o).cell? ⟨W.heap.size, 0, none⟩ = some (.string t) := fun o => (World.cell?_of_block (w := w5) (heap_alloc_old _ _ (Blk_lt HB5.out))).trans (cell_of_row _ _ 0 _ _ _ HB5.out)
        have z1 : ∀ o, (w5.alloc o).cell? ⟨W.heap.size, 1, none⟩ = some (.string i) := fun o => (World.cell?_of_block (w := w5) (heap_alloc_old _ _ (Blk_lt HB5.out))).trans (cell_of_row _ _ 1 _ _ _ HB5.out)
        go_wp2_with fail
        clear z0 z1
        refine (find5_ok (fun b => b < w5.heap.size) c _ (t, i) (w5.alloc (.cells #[.string x.uid.1, .string x.uid.2, .slice E1 l1 d1, .int .i64 q1, .bool q2, .int .i64 q3, .string q4, .string q5, .string q6, .slice E2 l2 d2, .slice E3 l3 d3] 37)) (fun b hb => by simp; omega) (HVb5.out.alike fun b hb => heap_alloc_old _ _ hb)).mono ?_
        rintro e w6 ⟨rfl, hx6⟩
        rw [findI_some HIx.out]
        have HE6 : Hid (w6.heap[w5.heap.size]? = some (.cells #[.string x.uid.1, .string x.uid.2, .slice E1 l1 d1, .int .i64 q1, .bool q2, .int .i64 q3, .string q4, .string q5, .string q6, .slice E2 l2 d2, .slice E3 l3 d3] 37 (0, 0))) := Lib.hid ((hx6.block _ (by simp)).trans (heap_alloc_new _ _))
        have hx56 := ((Ext.refl w5).alloc _).trans hx6
        have HX6 := Lib.hid (HX5.out.trans hx56)
        have HVb6 := Lib.hid ((HVb5.out.alike (Alike.of_ext hx56 fun _ h => h)).mono fun b hb => Nat.lt_of_lt_of_le hb hx56.size)
        have HFam6 := Lib.hid (HFam5.out.ext hx56)
        have HAt6 := Lib.hid (entR.mono (entR.alike HAt.out (Alike.of_ext hx56 fun _ h => h)) fun b hb => Nat.lt_of_lt_of_le hb hx56.size)
        clear hx6 hx56
        go_wp2_with fail
        refine (allF_ok g c w6 HFam6.out).mono ?_
        rintro e w7 ⟨v7, rfl, ho7, hx7⟩
        have HRow7 := Lib.hid ((ho7.rows (by rw [LIM_eq]; omega)).mono fun b hb => hb.lt)
        obtain ⟨A7, c7, rfl⟩ := ho7.shape
        have HX7 := Lib.hid (HX6.out.trans hx7)
        have HVb7 := Lib.hid ((HVb6.out.alike (Alike.of_ext hx7 fun _ h => h)).mono fun b hb => Nat.lt_of_lt_of_le hb hx7.size)
        have HE7 := Lib.hid ((hx7.block _ (Blk_lt HE6.out)).trans HE6.out)
        have HAt7 := Lib.hid (entR.mono (entR.alike HAt6.out (Alike.of_ext hx7 fun _ h => h)) fun b hb => Nat.lt_of_lt_of_le hb hx7.size)
        clear ho7 hx7
        go_wp2_with fail
        refine (wholeE_ok (fun b => b < w7.heap.size) c _ _ w7 (fun _ h => h) HRow7.out HVb7.out).mono ?_
        rintro e w8 ⟨rfl, hx8⟩
        have HX8 := Lib.hid (HX7.out.trans hx8)
        have HE8 := Lib.hid ((hx8.block _ (Blk_lt HE7.out)).trans HE7.out)
        have HVb8 := Lib.hid ((HVb7.out.alike (Alike.of_ext hx8 fun _ h => h)).mono fun b hb => Nat.lt_of_lt_of_le hb hx8.size)
        have HAt8 := Lib.hid (entR.mono (entR.alike HAt7.out (Alike.of_ext hx8 fun _ h => h)) fun b hb => Nat.lt_of_lt_of_le hb hx8.size)
        clear hx8
        go_wp2_with fail
        obtain ⟨Av, cv, ev, ⟨hv0, hv1, hv2⟩, hvr⟩ := HVb8.out
        injection ev with ev1 ev2 ev3
        subst ev1 ev3
        obtain ⟨vb, vo, rfl, hvS, hvr⟩ := hvr (by omega)
        obtain ⟨xcs, hxc, hxa⟩ := hvr ix x HCx.out
        have HXc := Lib.hid hxc
        have HXa := Lib.hid hxa
        have HvS := Lib.hid hvS
        clear hvr hxc hxa hvS hv0 hv2 ev2
        refine staged_region 8 [1, 7] [.agg #[.string x.uid.1, .string x.uid.2, .slice E1 l1 d1, .int .i64 q1, .bool q2, .int .i64 q3, .string q4, .string q5, .string q6, .slice E2 l2 d2, .slice E3 l3 d3], undef, .slice (some ⟨vb, vo, none⟩) c.length cb, .int .i64 ix, .int .i64 ix, .int .i64 ((ix + 1 : Nat) : Int), .slice (some ⟨vb, vo + ix * 11, none⟩) 1 (cb - ix), undef] (Stage6 w8 [.string x.uid.1, .string x.uid.2, .slice E1 l1 d1, .int .i64 q1, .bool q2, .int .i64 q3, .string q4, .string q5, .string q6, .slice E2 l2 d2, .slice E3 l3 d3]) (by kernel_rfl) (by kernel_rfl) (by kernel_rfl) (by kernel_rfl)
          (show Ext w8 w8.drew from ⟨⟨rfl, rfl, rfl, Nat.le_refl _, fun _ _ => rfl⟩, Nat.le_succ _⟩) (fun i' op hi hn ho vs W' a hRR hold hat => ?_) (fun k' i' op hk ho vs W' a hvl hRR hold hat Q' K hK => ?_) ?_
        · rcases (by simp at hn; omega : i' = 0 ∨ i' = 2 ∨ i' = 3 ∨ i' = 4 ∨ i' = 5 ∨ i' = 6) with rfl | rfl | rfl | rfl | rfl | rfl <;> obtain rfl := Option.some.inj ho
          · exact exec_load_cells 37 _ rfl w5.heap.size 0 (hold 11 (by kernel_rfl)) Tryz.agg60 Tryz.size60 rfl (cells_of_row ((hRR.ext.block _ (Blk_lt HE8.out)).trans HE8.out))
          · exact exec_move rfl (hold 9 (by kernel_rfl))
          · exact exec_move rfl (hold 13 (by kernel_rfl))
          · exact exec_move rfl (hold 13 (by kernel_rfl))
          · exact exec_add1 rfl (hat 4 77 (by omega) (by kernel_rfl) (by kernel_rfl)) (by omega)
          · exact exec_cut_one _ _ _ _ rfl 11 Tryz.elemE Tryz.elemEs (hat 2 75 (by omega) (by kernel_rfl) (by kernel_rfl)) (hat 3 76 (by omega) (by kernel_rfl) (by kernel_rfl)) (hat 5 78 (by omega) (by kernel_rfl) (by kernel_rfl)) (by omega)
        · have hk4 : k' < 2 := by simpa using (List.getElem?_eq_some_iff.1 hk).1
          rcases (by omega : k' = 0 ∨ k' = 1) with rfl | rfl <;> obtain rfl := Option.some.inj hk <;> obtain rfl := Option.some.inj ho
          · obtain rfl := List.eq_nil_of_length_eq_zero hvl
            have hxW : Ext w8 W' := hRR
            exact wp_value2 (exec_build _ _ rfl (hat 0 73 (by omega) (by kernel_rfl) (by kernel_rfl)) (Tryz.build57 _ _ _ _ _ _ _ _ _ _ _ W')) (hK _ _ ⟨W', hxW, rfl, rfl⟩)
          · obtain ⟨v1, rfl⟩ := lst1 hvl
            obtain ⟨W1, hxW, rfl, rfl⟩ := hRR
            have hw1 := hxW.alloc (.cells #[.string x.uid.1, .string x.uid.2, .slice E1 l1 d1, .int .i64 q1, .bool q2, .int .i64 q3, .string q4, .string q5, .string q6, .slice E2 l2 d2, .slice E3 l3 d3] 37)
            refine wp_enter2 (exec_call Tryz.func19 (by kernel_rfl) (by kernel_rfl) rfl (map_two (hat 1 74 (by omega) (by kernel_rfl) (by kernel_rfl)) (hat 6 79 (by omega) (by kernel_rfl) (by kernel_rfl)))) ((wholeE_ok (fun b => b < (W1.alloc (.cells #[.string x.uid.1, .string x.uid.2, .slice E1 l1 d1, .int .i64 q1, .bool q2, .int .i64 q3, .string q4, .string q5, .string q6, .slice E2 l2 d2, .slice E3 l3 d3] 37)).heap.size) [x] _ _ _ (fun _ h => h) ?_ ?_).mono ?_) hK
            · exact flat_block (heap_alloc_new _ _) (Rep.Flat.single (R := entR) (x := x) (entR.mono (entR.alike HAt8.out (Alike.of_ext hw1 fun _ h => h)) fun b hb => Nat.lt_of_lt_of_le hb hw1.size)) (by simp) (by rw [LIM_eq]; simp) rfl (by simp) (by rw [maxLen_eq]; omega)
            · refine ⟨_, _, rfl, ⟨by rw [LIM_eq]; simp, by simp; omega, by rw [maxLen_eq]; omega⟩, fun _ => ⟨vb, vo + ix * 11, rfl, Nat.lt_of_lt_of_le HvS.out hw1.size, fun j y hy => ?_⟩⟩
              match j, hy with
              | 0, hy =>
                obtain rfl : x = y := by simpa using hy
                exact ⟨xcs, by rw [Nat.zero_mul, Nat.add_zero]; exact HXc.out.alike (S := fun b => b < w8.heap.size) HvS.out (Alike.of_ext hw1 fun _ h => h), entR.mono (entR.alike HXa.out (Alike.of_ext hw1 fun _ h => h)) fun b hb => Nat.lt_of_lt_of_le hb hw1.size⟩
            · rintro e w9 ⟨rfl, hx9⟩
              exact ⟨_, rfl, hw1.trans hx9, rfl⟩
        · intro zs vs w9 hzl hvl hRR hzs
          obtain ⟨z0, z1, z2, z3, z4, z5, z6, z7, rfl⟩ := lst8 hzl
          obtain ⟨v1, v2, rfl⟩ := lst2 hvl
          obtain ⟨hx9, rfl⟩ := hRR
          obtain rfl : z7 = .bool true := hzs 7 (by omega)
          have HX9 := Lib.hid (HX8.out.trans hx9)
          clear hzs hzl hvl hx9
          simp only [List.take, List.drop, putAll, Act.put, List.setIfInBounds_toArray, List.set_cons_zero, List.set_cons_succ]
          go_wp2_with fail
          go_ret
          exact ⟨rfl, HX9.out⟩
    · have hc0 : (canonE l).2 ≠ 0 := fun h => hg (canonE_iff.1 h)
      have hb : (canonE l).1 = [] := canonE_bad hg
      obtain rfl := hbad hc0
      obtain ⟨er, herr⟩ : ∃ er, (canonE l).2 = er := ⟨_, rfl⟩
      have HC0 : Hid (er ≠ 0) := Lib.hid (herr ▸ hc0)
      have Herr := Lib.hid herr
      have HBad := Lib.hid hb
      have e0 : (er != 0) = true := by simp [HC0.out]
      have e1 : (er != er) = false := by simp
      rw [herr]
      clear hbad hgood hx3 HB2 hc0 herr hb hg
      go_wp2_with fail
      refine (canon5_ok (fun b => b < W.heap.size) l _ w3 (fun b hb => Nat.lt_of_lt_of_le hb HX3.out.size) (HR.out.alike (Alike.of_ext HX3.out fun _ h => h)) (by omega) HP.out HD.out).mono ?_
      rintro e w4 ⟨vb, rfl, hvb, hx4⟩
      rw [Herr.out]
      rw [HBad.out] at hvb
      have HVb := Lib.hid hvb
      have HX4 := Lib.hid (HX3.out.trans hx4)
      have HB4 := Lib.hid ((hx4.block _ (Blk_lt HB3.out)).trans HB3.out)
      obtain ⟨Ab, cb, rfl, ⟨hb0, hb1, hb2⟩, _⟩ := hvb
      rw [maxLen_eq] at hb2
      clear hx4 HB3 hb0
      have k0 : w4.cell? ⟨W.heap.size, 0, none⟩ = some (.string t) := cell_of_row _ _ 0 _ _ _ HB4.out
      have k1 : w4.cell? ⟨W.heap.size, 1, none⟩ = some (.string i) := cell_of_row _ _ 1 _ _ _ HB4.out
      go_wp2_with fail
      refine (getN_ok (t, i) w4).mono ?_
      rintro e w5 ⟨rfl, hx5⟩
      rw [show zeroEnt = [.string ByteArray.empty, .string ByteArray.empty, .slice none 0 0, .int .i64 0, .bool false, .int .i64 0, .string ByteArray.empty, .string ByteArray.empty, .string ByteArray.empty, .slice none 0 0, .slice none 0 0] from rfl]
      have HX5 := Lib.hid (HX4.out.trans hx5)
      have HB5 := Lib.hid ((hx5.block _ (Blk_lt HB4.out)).trans HB4.out)
      have HVb5 := Lib.hid ((HVb.out.alike (Alike.of_ext hx5 fun _ h => h)).mono fun b hb => Nat.lt_of_lt_of_le hb hx5.size)
      clear k0 k1 hx5
      have z0 : ∀ o, (w5.alloc o).cell? ⟨W.heap.size, 0, none⟩ = some (.string t) := fun o => (World.cell?_of_block (w := w5) (heap_alloc_old _ _ (Blk_lt HB5.out))).trans (cell_of_row _ _ 0 _ _ _ HB5.out)
      have z1 : ∀ o, (w5.alloc o).cell? ⟨W.heap.size, 1, none⟩ = some (.string i) := fun o => (World.cell?_of_block (w := w5) (heap_alloc_old _ _ (Blk_lt HB5.out))).trans (cell_of_row _ _ 1 _ _ _ HB5.out)
      go_wp2_with fail
      clear z0 z1
      refine (find5_ok (fun b => b < w5.heap.size) [] _ (t, i) (w5.alloc (.cells #[.string ByteArray.empty, .string ByteArray.empty, .slice none 0 0, .int .i64 0, .bool false, .int .i64 0, .string ByteArray.empty, .string ByteArray.empty, .string ByteArray.empty, .slice none 0 0, .slice none 0 0] 37)) (fun b hb => by simp; omega) (HVb5.out.alike fun b hb => heap_alloc_old _ _ hb)).mono ?_
      rintro e w6 ⟨rfl, hx6⟩
      rw [findI_none (show idx (([] : List Ent).map Ent.uid) (t, i) = none from rfl)]
      have HE6 : Hid (w6.heap[w5.heap.size]? = some (.cells #[.string ByteArray.empty, .string ByteArray.empty, .slice none 0 0, .int .i64 0, .bool false, .int .i64 0, .string ByteArray.empty, .string ByteArray.empty, .string ByteArray.empty, .slice none 0 0, .slice none 0 0] 37 (0, 0))) := Lib.hid ((hx6.block _ (by simp)).trans (heap_alloc_new _ _))
      have hx56 := ((Ext.refl w5).alloc _).trans hx6
      have HX6 := Lib.hid (HX5.out.trans hx56)
      have HVb6 := Lib.hid ((HVb5.out.alike (Alike.of_ext hx56 fun _ h => h)).mono fun b hb => Nat.lt_of_lt_of_le hb hx56.size)
      clear hx6 hx56
      go_wp2_with fail
      refine (allN_ok w6).mono ?_
      rintro e w7 ⟨v7, rfl, ho7, hx7⟩
      have HRow7 := Lib.hid ((ho7.rows (by rw [LIM_eq]; simp)).mono fun b hb => hb.lt)
      obtain ⟨A7, c7, rfl⟩ := ho7.shape
      have HX7 := Lib.hid (HX6.out.trans hx7)
      have HVb7 := Lib.hid ((HVb6.out.alike (Alike.of_ext hx7 fun _ h => h)).mono fun b hb => Nat.lt_of_lt_of_le hb hx7.size)
      have HE7 := Lib.hid ((hx7.block _ (Blk_lt HE6.out)).trans HE6.out)
      clear ho7 hx7
      go_wp2_with fail
      refine (wholeE_ok (fun b => b < w7.heap.size) [] _ _ w7 (fun _ h => h) HRow7.out HVb7.out).mono ?_
      rintro e w8 ⟨rfl, hx8⟩
      have HX8 := Lib.hid (HX7.out.trans hx8)
      have HE8 := Lib.hid ((hx8.block _ (Blk_lt HE7.out)).trans HE7.out)
      clear hx8
      have e0 : w8.cell? ⟨w5.heap.size, 0, none⟩ = some (.string ByteArray.empty) := cell_of_row _ _ 0 _ _ _ HE8.out
      have e1' : w8.cell? ⟨w5.heap.size, 1, none⟩ = some (.string ByteArray.empty) := cell_of_row _ _ 1 _ _ _ HE8.out
      have e2 : w8.cell? ⟨w5.heap.size, 2, none⟩ = some (.slice none 0 0) := cell_of_row _ _ 2 _ _ _ HE8.out
      go_wp2_with fail
      go_ret
      exact ⟨rfl, HX8.out⟩
end Go.Proofs.YtjllolagcdjlnaaGreat
