/-
  FamilyLaws: what the statement's own function answers. The conditions: the arguments lie in memory as they should.
-/
import Derived.Test.YtjllolagcdjlnaaGreatAnyFM
import Derived.Test.YtjllolagcdjlnaaGreatChgFM
namespace Go.Proofs.YtjllolagcdjlnaaGreat
open Go.RowKit

theorem inB_trans {c : List Ent} {u v x : Uid} (h1 : inB c u v = true) (h2 : inB c v x = true) : inB c u x = true := by
  rw [inB_iff] at h1 h2 ⊢
  rcases h1 with rfl | h1
  · exact h2
  · rcases h2 with rfl | h2
    · exact .inr h1
    · exact .inr (h1.trans h2)
theorem inB_anti {c : List Ent} (hg : Good c) {u v : Uid} (h1 : inB c u v = true) (h2 : inB c v u = true) : u = v := by
  rw [inB_iff] at h1 h2
  rcases h1 with rfl | h1
  · rfl
  · rcases h2 with h2 | h2
    · exact h2.symm
    · exact absurd (h1.trans h2) (upTo_open hg.names hg.round _)

set_option maxRecDepth 100000 in
set_option maxHeartbeats 4000000 in
theorem allN0_ok (w : World) : Calls Tryz.prog 25 #[.pointer none] w fun e w' => e = .returned (.slice none 0 0) ∧ Ext w w' := by
  go_enter Tryz.func25, Tryz.ntmps25
  go_wp2_with fail
  go_ret
  exact ⟨rfl, Ext.refl _⟩

set_option maxRecDepth 100000 in
set_option maxHeartbeats 4000000 in
theorem familyLaws_walk (l : List Ent) (a b d : Uid) (W : World) (v : Value) (hl : entR.RowsAt (fun b => b < W.heap.size) W l v) (ha : FitU a) (hb : FitU b) (hd : FitU d) :
    Calls Tryz.prog 8 #[v, valU a, valU b, valU d] W fun e W' => e = .returned (.bool true) ∧ Ext W W' := by
  have HR := Lib.hid hl
  have HF1 := Lib.hid ha
  have HF2 := Lib.hid hb
  have HF3 := Lib.hid hd
  obtain ⟨A, cap, rfl, ⟨hl0, hl1, hl2⟩, hlr⟩ := hl
  rw [maxLen_eq] at hl2
  obtain ⟨t1, i1⟩ := a
  obtain ⟨t2, i2⟩ := b
  obtain ⟨t3, i3⟩ := d
  unfold valU
  clear hlr hl0 ha hb hd
  go_enter Tryz.func8, Tryz.ntmps8
  go_wp2_with fail
  have h2 := heap3 W (.cells #[.string t1, .string i1] 31) (.cells #[.string t2, .string i2] 31) (.cells #[.string t3, .string i3] 31)
  obtain ⟨q0, q1, q2, qs, qx⟩ := h2
  refine (awake6_ok _).mono ?_
  rintro e w1 ⟨rfl, hx1⟩
  have HX1 := Lib.hid (qx.trans hx1)
  have HB1 := Lib.hid ((hx1.block _ (Blk_lt q0)).trans q0)
  have HC1 := Lib.hid ((hx1.block _ (Blk_lt q1)).trans q1)
  have HD1 := Lib.hid ((hx1.block _ (Blk_lt q2)).trans q2)
  clear hx1 q0 q1 q2 qs qx
  go_wp2_with fail
  refine (small6_ok (fun b => b < W.heap.size) l _ w1 (fun b hb => Nat.lt_of_lt_of_le hb HX1.out.size) (HR.out.alike (Alike.of_ext HX1.out fun _ h => h))).mono ?_
  rintro e w2 ⟨r, hr, rfl, hx2⟩
  have HX2 := Lib.hid (HX1.out.trans hx2)
  have HB2 := Lib.hid ((hx2.block _ (Blk_lt HB1.out)).trans HB1.out)
  have HC2 := Lib.hid ((hx2.block _ (Blk_lt HC1.out)).trans HC1.out)
  have HD2 := Lib.hid ((hx2.block _ (Blk_lt HD1.out)).trans HD1.out)
  cases r with
  | false =>
    clear hr hx2
    go_wp2_with fail
    go_ret
    exact ⟨rfl, HX2.out⟩
  | true =>
    have hsm := hr rfl
    have hl20 := hsm.len
    have HP : Hid (∀ e ∈ l, e.ps.length ≤ 1000) := Lib.hid fun e he => by have := (hsm.each e he).1; omega
    have HDp : Hid (∀ e ∈ l, e.av.dep ≤ 1000000) := Lib.hid hsm.lens.2.2
    clear hr hx2 hsm HB1 HC1 HD1
    go_wp2_with fail
    refine (loadV_ok (fun b => b < W.heap.size) l _ w2 (fun b hb => Nat.lt_of_lt_of_le hb HX2.out.size) (HR.out.alike (Alike.of_ext HX2.out fun _ h => h)) (by omega) HP.out HDp.out).mono ?_
    rintro e w3 ⟨pv, rfl, hsv, hn1, hn2, hx3⟩
    have HX3 := Lib.hid (HX2.out.trans hx3)
    have HB3 := Lib.hid ((hx3.block _ (Blk_lt HB2.out)).trans HB2.out)
    have HC3 := Lib.hid ((hx3.block _ (Blk_lt HC2.out)).trans HC2.out)
    have HD3 := Lib.hid ((hx3.block _ (Blk_lt HD2.out)).trans HD2.out)
    have HSv3 := Lib.hid hsv
    have HN1 := Lib.hid hn1
    clear hsv hn1 hn2 hx3 HB2 HC2 HD2 HP HDp HR
    by_cases hg : Good l
    · rw [canonE_iff.2 hg]
      have HLens : Hid (∀ x ∈ (canonE l).1, x.av.names.length = x.av.items.length) := Lib.hid fun x hx => canonE_lens hg hx
      have HGo := Lib.hid (canonE_good hg)
      have hcl : (canonE l).1.length ≤ 20 := by rw [canonE_length hg]; exact hl20
      generalize (canonE l).1 = c at *
      clear hg
      have G0 := Lib.hid (show w3.cell? ⟨W.heap.size, 0, none⟩ = some (.string t1) from cell_of_row _ _ 0 _ _ _ HB3.out)
      have g0 := G0.out
      have G1 := Lib.hid (show w3.cell? ⟨W.heap.size, 1, none⟩ = some (.string i1) from cell_of_row _ _ 1 _ _ _ HB3.out)
      have g1 := G1.out
      have G2 := Lib.hid (show w3.cell? ⟨W.heap.size + 1, 0, none⟩ = some (.string t2) from cell_of_row _ _ 0 _ _ _ HC3.out)
      have g2 := G2.out
      have G3 := Lib.hid (show w3.cell? ⟨W.heap.size + 1, 1, none⟩ = some (.string i2) from cell_of_row _ _ 1 _ _ _ HC3.out)
      have g3 := G3.out
      have G4 := Lib.hid (show w3.cell? ⟨W.heap.size + 1 + 1, 0, none⟩ = some (.string t3) from cell_of_row _ _ 0 _ _ _ HD3.out)
      have g4 := G4.out
      have G5 := Lib.hid (show w3.cell? ⟨W.heap.size + 1 + 1, 1, none⟩ = some (.string i3) from cell_of_row _ _ 1 _ _ _ HD3.out)
      have g5 := G5.out
      obtain ⟨bp, hbp⟩ : ∃ z, inB c (t1, i1) (t2, i2) = z := ⟨_, rfl⟩
      obtain ⟨bq, hbq⟩ : ∃ z, inB c (t2, i2) (t3, i3) = z := ⟨_, rfl⟩
      obtain ⟨bs, hbs⟩ : ∃ z, inB c (t2, i2) (t1, i1) = z := ⟨_, rfl⟩
      obtain ⟨br, hbr⟩ : ∃ z, inB c (t1, i1) (t3, i3) = z := ⟨_, rfl⟩
      have hlaw := inB_trans (c := c) (u := (t1, i1)) (v := (t2, i2)) (x := (t3, i3))
      have hanti := inB_anti (c := c) HGo.out (u := (t1, i1)) (v := (t2, i2))
      rw [hbp, hbq, hbr] at hlaw
      rw [hbp, hbs] at hanti
      have HLaw := Lib.hid hlaw
      have HAnti := Lib.hid hanti
      clear hlaw hanti
      have HKIp := Lib.hid hbp
      have HKIq := Lib.hid hbq
      have HKIr := Lib.hid hbr
      have HKIs := Lib.hid hbs
      have KIp : Hid (∀ X, Ext w3 X → Calls Tryz.prog 28 #[pv, .agg #[.string t1, .string i1], .agg #[.string t2, .string i2]] X fun e w' => e = .returned (.bool bp) ∧ Ext X w') := Lib.hid fun X hX => by
        have h := inV_ok pv c (t1, i1) (t2, i2) X HF1.out HF2.out (HSv3.out.ext hX)
        rw [HKIp.out] at h
        exact h
      have KIq : Hid (∀ X, Ext w3 X → Calls Tryz.prog 28 #[pv, .agg #[.string t2, .string i2], .agg #[.string t3, .string i3]] X fun e w' => e = .returned (.bool bq) ∧ Ext X w') := Lib.hid fun X hX => by
        have h := inV_ok pv c (t2, i2) (t3, i3) X HF2.out HF3.out (HSv3.out.ext hX)
        rw [HKIq.out] at h
        exact h
      have KIr : Hid (∀ X, Ext w3 X → Calls Tryz.prog 28 #[pv, .agg #[.string t1, .string i1], .agg #[.string t3, .string i3]] X fun e w' => e = .returned (.bool br) ∧ Ext X w') := Lib.hid fun X hX => by
        have h := inV_ok pv c (t1, i1) (t3, i3) X HF1.out HF3.out (HSv3.out.ext hX)
        rw [HKIr.out] at h
        exact h
      have KIs : Hid (∀ X, Ext w3 X → Calls Tryz.prog 28 #[pv, .agg #[.string t2, .string i2], .agg #[.string t1, .string i1]] X fun e w' => e = .returned (.bool bs) ∧ Ext X w') := Lib.hid fun X hX => by
        have h := inV_ok pv c (t2, i2) (t1, i1) X HF2.out HF1.out (HSv3.out.ext hX)
        rw [HKIs.out] at h
        exact h
      clear hbp hbq hbr hbs HKIp HKIq HKIr HKIs
      have HW3 : Hid (Ext w3 w3) := Lib.hid (Ext.refl _)
      go_wp2_with fail
      refine (KIp.out w3 HW3.out).mono ?_
      rintro e w4 ⟨rfl, hx⟩
      have HW4 := Lib.hid (HW3.out.trans hx)
      clear hx g0 g1 g2 g3 g4 g5
      have g0 := HW4.out.cell G0.out
      have g1 := HW4.out.cell G1.out
      have g2 := HW4.out.cell G2.out
      have g3 := HW4.out.cell G3.out
      have g4 := HW4.out.cell G4.out
      have g5 := HW4.out.cell G5.out
      cases bp
      case' false =>
        clear HLaw HAnti
        go_wp2_with fail
        refine (KIp.out w4 HW4.out).mono ?_
        rintro e w45 ⟨rfl, hx⟩
        have HW45 := Lib.hid (HW4.out.trans hx)
        clear hx g0 g1 g2 g3 g4 g5
        have g0 := HW45.out.cell G0.out
        have g1 := HW45.out.cell G1.out
        have g2 := HW45.out.cell G2.out
        have g3 := HW45.out.cell G3.out
        have g4 := HW45.out.cell G4.out
        have g5 := HW45.out.cell G5.out
        obtain ⟨w7, hw7⟩ : ∃ w7, w7 = w45 := ⟨_, rfl⟩
        subst hw7
        have HX7 := HW45
      case' true =>
        cases bs
        case' false =>
          clear HAnti
          cases bq
          case' false =>
            clear HLaw
            go_wp2_with fail
            refine (KIq.out w4 HW4.out).mono ?_
            rintro e w45 ⟨rfl, hx⟩
            have HW45 := Lib.hid (HW4.out.trans hx)
            clear hx g0 g1 g2 g3 g4 g5
            have g0 := HW45.out.cell G0.out
            have g1 := HW45.out.cell G1.out
            have g2 := HW45.out.cell G2.out
            have g3 := HW45.out.cell G3.out
            have g4 := HW45.out.cell G4.out
            have g5 := HW45.out.cell G5.out
            go_wp2_with fail
            refine (KIp.out w45 HW45.out).mono ?_
            rintro e w46 ⟨rfl, hx⟩
            have HW46 := Lib.hid (HW45.out.trans hx)
            clear hx g0 g1 g2 g3 g4 g5
            have g0 := HW46.out.cell G0.out
            have g1 := HW46.out.cell G1.out
            have g2 := HW46.out.cell G2.out
            have g3 := HW46.out.cell G3.out
            have g4 := HW46.out.cell G4.out
            have g5 := HW46.out.cell G5.out
            go_wp2_with fail
            refine (KIs.out w46 HW46.out).mono ?_
            rintro e w47 ⟨rfl, hx⟩
            have HW47 := Lib.hid (HW46.out.trans hx)
            clear hx g0 g1 g2 g3 g4 g5
            have g0 := HW47.out.cell G0.out
            have g1 := HW47.out.cell G1.out
            have g2 := HW47.out.cell G2.out
            have g3 := HW47.out.cell G3.out
            have g4 := HW47.out.cell G4.out
            have g5 := HW47.out.cell G5.out
            obtain ⟨w7, hw7⟩ : ∃ w7, w7 = w47 := ⟨_, rfl⟩
            subst hw7
            have HX7 := HW47
          case' true =>
            obtain rfl := HLaw.out rfl rfl
            go_wp2_with fail
            refine (KIq.out w4 HW4.out).mono ?_
            rintro e w45 ⟨rfl, hx⟩
            have HW45 := Lib.hid (HW4.out.trans hx)
            clear hx g0 g1 g2 g3 g4 g5
            have g0 := HW45.out.cell G0.out
            have g1 := HW45.out.cell G1.out
            have g2 := HW45.out.cell G2.out
            have g3 := HW45.out.cell G3.out
            have g4 := HW45.out.cell G4.out
            have g5 := HW45.out.cell G5.out
            go_wp2_with fail
            refine (KIr.out w45 HW45.out).mono ?_
            rintro e w46 ⟨rfl, hx⟩
            have HW46 := Lib.hid (HW45.out.trans hx)
            clear hx g0 g1 g2 g3 g4 g5
            have g0 := HW46.out.cell G0.out
            have g1 := HW46.out.cell G1.out
            have g2 := HW46.out.cell G2.out
            have g3 := HW46.out.cell G3.out
            have g4 := HW46.out.cell G4.out
            have g5 := HW46.out.cell G5.out
            go_wp2_with fail
            refine (KIp.out w46 HW46.out).mono ?_
            rintro e w47 ⟨rfl, hx⟩
            have HW47 := Lib.hid (HW46.out.trans hx)
            clear hx g0 g1 g2 g3 g4 g5
            have g0 := HW47.out.cell G0.out
            have g1 := HW47.out.cell G1.out
            have g2 := HW47.out.cell G2.out
            have g3 := HW47.out.cell G3.out
            have g4 := HW47.out.cell G4.out
            have g5 := HW47.out.cell G5.out
            go_wp2_with fail
            refine (KIs.out w47 HW47.out).mono ?_
            rintro e w48 ⟨rfl, hx⟩
            have HW48 := Lib.hid (HW47.out.trans hx)
            clear hx g0 g1 g2 g3 g4 g5
            have g0 := HW48.out.cell G0.out
            have g1 := HW48.out.cell G1.out
            have g2 := HW48.out.cell G2.out
            have g3 := HW48.out.cell G3.out
            have g4 := HW48.out.cell G4.out
            have g5 := HW48.out.cell G5.out
            obtain ⟨w7, hw7⟩ : ∃ w7, w7 = w48 := ⟨_, rfl⟩
            subst hw7
            have HX7 := HW48
        case' true.true =>
          obtain ⟨rfl, rfl⟩ := Prod.mk.inj (HAnti.out rfl rfl)
          have tq : ∀ w, (binOp .neq 31 (.agg #[.string t1, .string i1]) (.agg #[.string t1, .string i1])).run Tryz.prog w = .ok (.bool false) w := fun w => by have h := neqU (t1, i1) (t1, i1) w; simp at h; exact h
          have tq' : ∀ w, (Op.equalIn 10000 31 (.agg #[.string t1, .string i1]) (.agg #[.string t1, .string i1])).run Tryz.prog w = .ok true w := fun w => by have h := eqlU_in (t1, i1) (t1, i1) w; simp at h; exact h
          have tg : ∀ (y z : Operand) w, (eqGuard .neq 31 y z (.agg #[.string t1, .string i1]) (.agg #[.string t1, .string i1])).run Tryz.prog w = .ok () w := fun y z w => guardU _ y z (t1, i1) (t1, i1) w
          cases bq
          case' false =>
            clear HLaw
            go_wp2_with fail
            refine (KIq.out w4 HW4.out).mono ?_
            rintro e w45 ⟨rfl, hx⟩
            have HW45 := Lib.hid (HW4.out.trans hx)
            clear hx g0 g1 g2 g3 g4 g5
            have g0 := HW45.out.cell G0.out
            have g1 := HW45.out.cell G1.out
            have g2 := HW45.out.cell G2.out
            have g3 := HW45.out.cell G3.out
            have g4 := HW45.out.cell G4.out
            have g5 := HW45.out.cell G5.out
            go_wp2_with fail
            refine (KIp.out w45 HW45.out).mono ?_
            rintro e w46 ⟨rfl, hx⟩
            have HW46 := Lib.hid (HW45.out.trans hx)
            clear hx g0 g1 g2 g3 g4 g5
            have g0 := HW46.out.cell G0.out
            have g1 := HW46.out.cell G1.out
            have g2 := HW46.out.cell G2.out
            have g3 := HW46.out.cell G3.out
            have g4 := HW46.out.cell G4.out
            have g5 := HW46.out.cell G5.out
            go_wp2_with fail
            refine (KIs.out w46 HW46.out).mono ?_
            rintro e w47 ⟨rfl, hx⟩
            have HW47 := Lib.hid (HW46.out.trans hx)
            clear hx g0 g1 g2 g3 g4 g5
            have g0 := HW47.out.cell G0.out
            have g1 := HW47.out.cell G1.out
            have g2 := HW47.out.cell G2.out
            have g3 := HW47.out.cell G3.out
            have g4 := HW47.out.cell G4.out
            have g5 := HW47.out.cell G5.out
            obtain ⟨w7, hw7⟩ : ∃ w7, w7 = w47 := ⟨_, rfl⟩
            subst hw7
            have HX7 := HW47
          case' true =>
            obtain rfl := HLaw.out rfl rfl
            go_wp2_with fail
            refine (KIq.out w4 HW4.out).mono ?_
            rintro e w45 ⟨rfl, hx⟩
            have HW45 := Lib.hid (HW4.out.trans hx)
            clear hx g0 g1 g2 g3 g4 g5
            have g0 := HW45.out.cell G0.out
            have g1 := HW45.out.cell G1.out
            have g2 := HW45.out.cell G2.out
            have g3 := HW45.out.cell G3.out
            have g4 := HW45.out.cell G4.out
            have g5 := HW45.out.cell G5.out
            go_wp2_with fail
            refine (KIr.out w45 HW45.out).mono ?_
            rintro e w46 ⟨rfl, hx⟩
            have HW46 := Lib.hid (HW45.out.trans hx)
            clear hx g0 g1 g2 g3 g4 g5
            have g0 := HW46.out.cell G0.out
            have g1 := HW46.out.cell G1.out
            have g2 := HW46.out.cell G2.out
            have g3 := HW46.out.cell G3.out
            have g4 := HW46.out.cell G4.out
            have g5 := HW46.out.cell G5.out
            go_wp2_with fail
            refine (KIp.out w46 HW46.out).mono ?_
            rintro e w47 ⟨rfl, hx⟩
            have HW47 := Lib.hid (HW46.out.trans hx)
            clear hx g0 g1 g2 g3 g4 g5
            have g0 := HW47.out.cell G0.out
            have g1 := HW47.out.cell G1.out
            have g2 := HW47.out.cell G2.out
            have g3 := HW47.out.cell G3.out
            have g4 := HW47.out.cell G4.out
            have g5 := HW47.out.cell G5.out
            go_wp2_with fail
            refine (KIs.out w47 HW47.out).mono ?_
            rintro e w48 ⟨rfl, hx⟩
            have HW48 := Lib.hid (HW47.out.trans hx)
            clear hx g0 g1 g2 g3 g4 g5
            have g0 := HW48.out.cell G0.out
            have g1 := HW48.out.cell G1.out
            have g2 := HW48.out.cell G2.out
            have g3 := HW48.out.cell G3.out
            have g4 := HW48.out.cell G4.out
            have g5 := HW48.out.cell G5.out
            obtain ⟨w7, hw7⟩ : ∃ w7, w7 = w48 := ⟨_, rfl⟩
            subst hw7
            have HX7 := HW48

      all_goals
        go_wp2_with fail
        clear g0 g1 g2 g3 g4 g5 KIp KIq KIr KIs
        try clear tq tq' tg
        refine (allV_ok pv c w7 (HSv3.out.ext HX7.out)).mono ?_
        rintro e w8 ⟨v8, rfl, ho8, hx8⟩
        obtain ⟨A8, c8, rfl⟩ := ho8.shape
        have HO8 := Lib.hid ((ho8.rows (by rw [LIM_eq]; omega)).mono fun b hb => hb.lt)
        have HX38 := Lib.hid (HX7.out.trans hx8)
        have HSv8 := Lib.hid (HSv3.out.ext HX38.out)
        clear ho8 hx8 HX7
        go_wp2_with fail
        refine (allV_ok pv c w8 HSv8.out).mono ?_
        rintro e w9 ⟨v9, rfl, ho9, hx9⟩
        obtain ⟨A9, c9, rfl⟩ := ho9.shape
        have HO9 := Lib.hid ho9
        have HX9 := Lib.hid hx9
        have HG9 : Hid (∀ g, A9 = some ⟨g, 0, none⟩ → Chg w8 g w9 w9) := Lib.hid fun g _ => Chg.refl hx9
        have hcap : 0 < c.length → c.length ≤ c9 ∧ c9 ≤ 9223372036854775807 := fun hn => by
          obtain ⟨xs, ho, _⟩ := ho9
          obtain ⟨g, cap, ev, _, h1, h2, _⟩ := own_cells ho hn
          injection ev with _ _ ev
          rw [maxLen_eq] at h2
          subst ev
          exact ⟨h1, h2⟩
        have HCap := Lib.hid hcap
        clear ho9 hx9 hcap
        go_wp2_with fail
        go_loopw [15] (fun i' wr => ∃ i : Nat, i ≤ c.length ∧ i' = .int .i64 i ∧ Hid (Ext w8 wr) ∧ Hid (∀ g, A9 = some ⟨g, 0, none⟩ → Chg w8 g w9 wr)) (fun i' _ => c.length - (intOf i').toNat)
        case atStart => exact ⟨0, Nat.zero_le _, rfl, HX9, HG9⟩
        case round =>
          clear HG9 HX9
          obtain ⟨i, hi, rfl, HX, HG⟩ := hrel
          by_cases hlt : i < c.length
          · obtain ⟨x, hx⟩ : ∃ x, c[i]? = some x := ⟨_, List.getElem?_eq_getElem hlt⟩
            obtain ⟨g, cap, ev, fg, ⟨u1, k1⟩, ⟨A1, c1, k2, p1, p2, kp⟩, ⟨A2, c2, k3, q1, q2, kq⟩, ⟨A3, c3, k4, r1, r2, kr⟩⟩ := HO9.out.parts hx (HLens.out x (List.mem_of_getElem? hx))
            obtain ⟨hcap1, hcap2⟩ := HCap.out (by omega)
            injection ev with e1 e2 e3
            clear e2
            subst e3
            rw [maxLen_eq] at p2 q2 r2
            have HGg := Lib.hid (HG.out g e1)
            have HA := Lib.hid e1
            subst e1
            have Fg := Lib.hid fg
            have K2 := Lib.hid k2
            have K3 := Lib.hid k3
            have K4 := Lib.hid k4
            have KP := Lib.hid kp
            have KQ := Lib.hid kq
            have KR := Lib.hid kr
            have Hlt := Lib.hid hlt
            obtain ⟨u1', m1, m2, m3⟩ := HGg.out.cell fg k1
            clear fg k1 k2 k3 k4 kp kq kr hx HX HG
            go_wp2_with fail
            have HC0 : Hid (Chg w8 g w9 (wr.setCell ⟨g, i * 11 + 1, none⟩ (.string ⟨#[99, 104, 97, 110, 103, 101, 100]⟩))) := Lib.hid (HGg.out.set _ Fg.out.1 (.inr ⟨i, rfl⟩))
            clear m1 m2 m3 HGg
            generalize wr.setCell ⟨g, i * 11 + 1, none⟩ (.string ⟨#[99, 104, 97, 110, 103, 101, 100]⟩) = wq at HC0 ⊢
            go_loopw [16] (fun k' wr => ∃ k : Nat, k ≤ x.ps.length ∧ k' = .int .i64 k ∧ Hid (Chg w8 g w9 wr)) (fun k' _ => x.ps.length - (intOf k').toNat)
            case atStart => exact ⟨0, Nat.zero_le _, rfl, HC0⟩
            case round =>
              clear HC0
              obtain ⟨k, hk, rfl, HC⟩ := hrel
              have h2 := HC.out.head Fg.out (.inl rfl) K2.out
              by_cases hkt : k < x.ps.length
              · obtain ⟨b, o, eA, hne, fb, u, ku⟩ := KP.out k hkt
                have Hne := Lib.hid hne
                have Fb := Lib.hid fb
                obtain ⟨u', n1, n2, n3⟩ := HC.out.cell fb ku
                subst eA
                clear hne fb ku
                go_wp2_with fail
                go_roundw
                case rel => exact ⟨k + 1, by omega, by go_num, Lib.hid (HC.out.set _ Fb.out.1 (.inl Hne.out))⟩
                case measure => simp [intOf]; omega
              · go_wp2_with fail
                clear h2
                rename World => wb
                go_loopw [17] (fun k' wr => ∃ k : Nat, k ≤ x.av.items.length ∧ k' = .int .i64 k ∧ Hid (Chg w8 g w9 wr)) (fun k' _ => x.av.items.length - (intOf k').toNat)
                case atStart => exact ⟨0, Nat.zero_le _, rfl, HC⟩
                case round =>
                  clear HC
                  obtain ⟨k, hk, rfl, HC⟩ := hrel
                  have h3 := HC.out.head Fg.out (.inr (.inl rfl)) K3.out
                  have h3' := show wr.cell? ⟨g, i * 11 + 3 + 6, none⟩ = _ from h3
                  by_cases hkt : k < x.av.items.length
                  · obtain ⟨b, o, eA, hne, fb, u, ku⟩ := KQ.out k hkt
                    obtain ⟨b2, o2, eA2, hne2, fb2, u2, ku2⟩ := KR.out k hkt
                    have Hne := Lib.hid hne
                    have Fb := Lib.hid fb
                    have Hne2 := Lib.hid hne2
                    have Fb2 := Lib.hid fb2
                    have Ku2 := Lib.hid ku2
                    obtain ⟨u', n1, n2, n3⟩ := HC.out.cell fb ku
                    subst eA
                    subst eA2
                    clear hne fb ku hne2 fb2 ku2
                    go_upto_region 26 with (fail)
                    have HC2 : Hid (Chg w8 g w9 (wr.setCell ⟨b, o + k * 8 + 2, none⟩ (.int .i64 99))) := Lib.hid (HC.out.set _ Fb.out.1 (.inl Hne.out))
                    generalize wr.setCell ⟨b, o + k * 8 + 2, none⟩ (.int .i64 99) = wc at HC2 ⊢
                    have h4 := HC2.out.head Fg.out (.inr (.inr rfl)) K4.out
                    have h4' := show wc.cell? ⟨g, i * 11 + 3 + 7, none⟩ = _ from h4
                    obtain ⟨u3, m1, m2, m3⟩ := HC2.out.cell Fb2.out Ku2.out
                    clear h3 h3' n1 n2 n3
                    go_wp2_with fail
                    go_roundw
                    case rel => exact ⟨k + 1, by omega, by go_num, Lib.hid (HC2.out.set _ Fb2.out.1 (.inl Hne2.out))⟩
                    case measure => simp [intOf]; omega
                  · go_wp2_with fail
                    go_roundw
                    case rel => exact ⟨i + 1, by have := Hlt.out; omega, by go_num, Lib.hid HC.out.ext, Lib.hid fun g' e => by
                      injection e with e
                      injection e with e
                      subst e
                      exact HC.out⟩
                    case measure => have := Hlt.out; simp [intOf]; omega
          · clear HG
            go_wp2_with fail
            refine (allV_ok pv c wr (HSv8.out.ext HX.out)).mono ?_
            rintro e w10 ⟨v10, rfl, ho10, hx10⟩
            have HO10 := Lib.hid ((ho10.rows (by rw [LIM_eq]; omega)).mono fun b hb => hb.lt)
            obtain ⟨A10, c10, rfl⟩ := ho10.shape
            have hx810 := HX.out.trans hx10
            have HOw := Lib.hid ((HO8.out.alike (Alike.of_ext hx810 fun _ h => h)).mono fun b hb => Nat.lt_of_lt_of_le hb hx810.size)
            have HX10 := Lib.hid (HX3.out.trans (HX38.out.trans hx810))
            clear ho10 hx10 hx810
            go_wp2_with fail
            refine (wholeE_ok (fun b => b < w10.heap.size) c _ _ w10 (fun _ h => h) HOw.out HO10.out).mono ?_
            rintro e w11 ⟨rfl, hx11⟩
            have HX11 := Lib.hid (HX10.out.trans hx11)
            clear hx11
            go_wp2_with fail
            go_ret
            exact ⟨rfl, HX11.out⟩
    · have hc0 : (canonE l).2 ≠ 0 := fun h => hg (canonE_iff.1 h)
      obtain rfl := HN1.out hc0
      obtain ⟨er, herr⟩ : ∃ er, er = (canonE l).2 := ⟨_, rfl⟩
      rw [← herr] at hc0 ⊢
      have e0 : (er != 0) = true := by simp [hc0]
      obtain ⟨tb, htb⟩ : ∃ tb, decide ((t1, i1) = (t2, i2)) = tb := ⟨_, rfl⟩
      have HTb := Lib.hid htb
      have g0 := cell_regrown (show w3.cell? ⟨W.heap.size, 0, none⟩ = some (.string t1) from cell_of_row _ _ 0 _ _ _ HB3.out)
      have g1 := cell_regrown (show w3.cell? ⟨W.heap.size, 1, none⟩ = some (.string i1) from cell_of_row _ _ 1 _ _ _ HB3.out)
      have g2 := cell_regrown (show w3.cell? ⟨W.heap.size + 1, 0, none⟩ = some (.string t2) from cell_of_row _ _ 0 _ _ _ HC3.out)
      have g3 := cell_regrown (show w3.cell? ⟨W.heap.size + 1, 1, none⟩ = some (.string i2) from cell_of_row _ _ 1 _ _ _ HC3.out)
      have KIa : Hid (∀ X, Ext w3 X → Calls Tryz.prog 28 #[.pointer none, .agg #[.string t1, .string i1], .agg #[.string t1, .string i1]] X fun e w' => e = .returned (.bool true) ∧ Ext X w') := Lib.hid fun X _ => by
        have h := inN_ok (t1, i1) (t1, i1) X
        rw [show decide (((t1, i1) : Uid) = (t1, i1)) = true from decide_eq_true rfl] at h
        exact h
      have KIb : Hid (∀ X, Ext w3 X → Calls Tryz.prog 28 #[.pointer none, .agg #[.string t1, .string i1], .agg #[.string t2, .string i2]] X fun e w' => e = .returned (.bool tb) ∧ Ext X w') := Lib.hid fun X _ => by
        have h := inN_ok (t1, i1) (t2, i2) X
        rw [HTb.out] at h
        exact h
      have KAb : Hid (∀ X, Ext w3 X → Calls Tryz.prog 26 #[.pointer none, .agg #[.string t1, .string i1]] X fun e w' => e = .returned (.slice none 0 0) ∧ Ext X w') := Lib.hid fun X _ => aboveN_ok (t1, i1) X
      have KAl : Hid (∀ X, Ext w3 X → Calls Tryz.prog 25 #[.pointer none] X fun e w' => e = .returned (.slice none 0 0) ∧ Ext X w') := Lib.hid fun X _ => allN0_ok X
      have tq : ∀ w, (binOp .eql 31 (.agg #[.string t1, .string i1]) (.agg #[.string t2, .string i2])).run Tryz.prog w = .ok (.bool tb) w := fun w => by have h := eqlU (t1, i1) (t2, i2) w; rw [htb] at h; exact h
      have tq' : ∀ w, (Op.equalIn 10000 31 (.agg #[.string t1, .string i1]) (.agg #[.string t2, .string i2])).run Tryz.prog w = .ok tb w := fun w => by have h := eqlU_in (t1, i1) (t2, i2) w; rw [htb] at h; exact h
      have tg : ∀ (y z : Operand) w, (eqGuard .eql 31 y z (.agg #[.string t1, .string i1]) (.agg #[.string t2, .string i2])).run Tryz.prog w = .ok () w := fun y z w => guardU _ y z (t1, i1) (t2, i2) w
      have etb : (tb == tb) = true := by simp
      clear htb herr hc0 hg
      go_wp2_with fail
      refine region_later (by kernel_rfl) (by kernel_rfl) ?_
      iterate 6 (go_big_quiet_step (fail))
      go_big_quiet_step ((go_at_call 28; exact later_call KIa.out _ _))
      iterate 5 (go_big_quiet_step (fail))
      go_big_quiet_step ((go_at_call 28; exact later_call KIb.out _ _))
      iterate 8 (go_big_quiet_step (fail))
      go_big_quiet_step ((go_at_call 26; exact later_call KAb.out _ _))
      iterate 5 (go_big_quiet_step (fail))
      go_big_quiet_step ((go_at_call 25; exact later_call KAl.out _ _))
      iterate 4 (go_big_quiet_step (fail))
      refine wpQuiet_nil ?_
      intro w4 hw4
      have HX4 := Lib.hid (HX3.out.trans hw4)
      clear hw4 g0 g1 g2 g3 tq tq' tg KIa KIb KAb KAl
      go_wp2_with fail
      go_ret
      exact ⟨rfl, HX4.out⟩
end Go.Proofs.YtjllolagcdjlnaaGreat
