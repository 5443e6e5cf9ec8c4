/-
  FamilyAbove: what the statement's own function answers. The conditions: the arguments lie in memory as they should.
-/
import Derived.Test.YtjllolagcdjlnaaGreatAnyFM
namespace Go.Proofs.YtjllolagcdjlnaaGreat
open Go.RowKit

set_option maxRecDepth 100000 in
set_option maxHeartbeats 4000000 in
theorem familyAbove_walk (l : List Ent) (a b : Uid) (W : World) (v : Value) (hl : entR.RowsAt (fun b => b < W.heap.size) W l v) (ha : FitU a) (hb : FitU b) :
    Calls Tryz.prog 7 #[v, valU a, valU b] W fun e W' => e = .returned (.bool true) ∧ Ext W W' := by
  have HR := Lib.hid hl
  have HFa := Lib.hid ha
  have HFb := Lib.hid hb
  obtain ⟨A, cap, rfl, ⟨hl0, hl1, hl2⟩, hlr⟩ := hl
  rw [maxLen_eq] at hl2
  obtain ⟨t1, i1⟩ := a
  obtain ⟨t2, i2⟩ := b
  unfold valU
  clear hlr hl0 ha hb
  go_enter Tryz.func7, Tryz.ntmps7
  go_wp2_with fail
  have h2 := heap2 W (.cells #[.string t1, .string i1] 31) (.cells #[.string t2, .string i2] 31)
  obtain ⟨q0, q1, qs, qx⟩ := h2
  refine (awake6_ok _).mono ?_
  rintro e w1 ⟨rfl, hx1⟩
  have HX1 := Lib.hid (qx.trans hx1)
  have HB1 := Lib.hid ((hx1.block _ (Blk_lt q0)).trans q0)
  have HC1 := Lib.hid ((hx1.block _ (Blk_lt q1)).trans q1)
  clear hx1 q0 q1 qs qx
  go_wp2_with fail
  refine (small6_ok (fun b => b < W.heap.size) l _ w1 (fun b hb => Nat.lt_of_lt_of_le hb HX1.out.size) (HR.out.alike (Alike.of_ext HX1.out fun _ h => h))).mono ?_
  rintro e w2 ⟨r, hr, rfl, hx2⟩
  have HX2 := Lib.hid (HX1.out.trans hx2)
  have HB2 := Lib.hid ((hx2.block _ (Blk_lt HB1.out)).trans HB1.out)
  have HC2 := Lib.hid ((hx2.block _ (Blk_lt HC1.out)).trans HC1.out)
  cases r with
  | false =>
    clear hr hx2
    go_wp2_with fail
    go_ret
    exact ⟨rfl, HX2.out⟩
  | true =>
    have hsm := hr rfl
    have hl20 := hsm.len
    have HP : Hid (∀ e ∈ l, e.ps.length ≤ 1000) := Lib.hid fun e he => by have := (hsm.each e he).1; omega
    have HD : Hid (∀ e ∈ l, e.av.dep ≤ 1000000) := Lib.hid hsm.lens.2.2
    clear hr hx2 hsm HB1 HC1
    go_wp2_with fail
    refine (loadV_ok (fun b => b < W.heap.size) l _ w2 (fun b hb => Nat.lt_of_lt_of_le hb HX2.out.size) (HR.out.alike (Alike.of_ext HX2.out fun _ h => h)) (by omega) HP.out HD.out).mono ?_
    rintro e w3 ⟨pv, rfl, hsv, hn1, hn2, hx3⟩
    have HX3 := Lib.hid (HX2.out.trans hx3)
    have HB3 := Lib.hid ((hx3.block _ (Blk_lt HB2.out)).trans HB2.out)
    have HC3 := Lib.hid ((hx3.block _ (Blk_lt HC2.out)).trans HC2.out)
    have HSv3 := Lib.hid hsv
    clear hsv hn1 hn2 hx3 HB2 HC2
    go_wp2_with fail
    refine (canon5_ok (fun b => b < W.heap.size) l _ w3 (fun b hb => Nat.lt_of_lt_of_le hb HX3.out.size) (HR.out.alike (Alike.of_ext HX3.out fun _ h => h)) (by omega) HP.out HD.out).mono ?_
    rintro e w4 ⟨vb, rfl, hvb, hx4⟩
    have hcl := HSv3.out.tidy
    obtain ⟨c, hcc⟩ : ∃ c, c = (canonE l).1 := ⟨_, rfl⟩
    obtain ⟨er, herr⟩ : ∃ er, er = (canonE l).2 := ⟨_, rfl⟩
    rw [← hcc] at hvb hcl HSv3
    rw [← herr]
    have HTy := Lib.hid hcl
    have HVb := Lib.hid hvb
    have HX4 := Lib.hid (HX3.out.trans hx4)
    have HSv4 := Lib.hid (HSv3.out.ext hx4)
    have HB4 := Lib.hid ((hx4.block _ (Blk_lt HB3.out)).trans HB3.out)
    have HC4 := Lib.hid ((hx4.block _ (Blk_lt HC3.out)).trans HC3.out)
    clear hvb hx4 HSv3 HB3 HC3 hcc herr hcl
    have k0 : w4.cell? ⟨W.heap.size, 0, none⟩ = some (.string t1) := cell_of_row _ _ 0 _ _ _ HB4.out
    have k1 : w4.cell? ⟨W.heap.size, 1, none⟩ = some (.string i1) := cell_of_row _ _ 1 _ _ _ HB4.out
    go_wp2_with fail
    refine (aboveV_ok pv c (t1, i1) w4 HFa.out HSv4.out).mono ?_
    rintro e w5 ⟨v5, l5, rfl, hr5, hs5, hq5, hx5⟩
    have HX5 := Lib.hid (HX4.out.trans hx5)
    have HSv5 := Lib.hid (HSv4.out.ext hx5)
    have HB5 := Lib.hid ((hx5.block _ (Blk_lt HB4.out)).trans HB4.out)
    have HC5 := Lib.hid ((hx5.block _ (Blk_lt HC4.out)).trans HC4.out)
    have HVb5 := Lib.hid ((HVb.out.alike (Alike.of_ext hx5 fun _ h => h)).mono fun b hb => Nat.lt_of_lt_of_le hb hx5.size)
    have HR5 := Lib.hid hr5
    have HS5 := Lib.hid hs5
    have HQ5 := Lib.hid hq5
    clear hr5 hs5 hq5 hx5 HSv4 HB4 HC4 HVb k0 k1
    have k0 : w5.cell? ⟨W.heap.size, 0, none⟩ = some (.string t1) := cell_of_row _ _ 0 _ _ _ HB5.out
    have k1 : w5.cell? ⟨W.heap.size, 1, none⟩ = some (.string i1) := cell_of_row _ _ 1 _ _ _ HB5.out
    go_wp2_with fail
    refine (above6_ok (fun b => b < w5.heap.size) c vb (t1, i1) w5 (fun _ h => h) HVb5.out HTy.out.len HTy.out.names).mono ?_
    rintro e w6 ⟨v6, l6, rfl, hr6, hs6, hq6, hx6⟩
    obtain rfl : l6 = l5 := above_same hs6 HS5.out hq6 HQ5.out
    have HX6 := Lib.hid (HX5.out.trans hx6)
    have HSv6 := Lib.hid (HSv5.out.ext hx6)
    have HB6 := Lib.hid ((hx6.block _ (Blk_lt HB5.out)).trans HB5.out)
    have HC6 := Lib.hid ((hx6.block _ (Blk_lt HC5.out)).trans HC5.out)
    have HVb6 := Lib.hid ((HVb5.out.alike (Alike.of_ext hx6 fun _ h => h)).mono fun b hb => Nat.lt_of_lt_of_le hb hx6.size)
    have HR56 := Lib.hid ((HR5.out.alike (Alike.of_ext hx6 fun _ h => h)).mono fun b hb => Nat.lt_of_lt_of_le hb hx6.size)
    have HR6 := Lib.hid hr6
    obtain ⟨A5, c5, rfl, ⟨m0, m1, m2⟩, _⟩ := HR5.out
    obtain ⟨A6, c6, rfl, ⟨n0, n1, n2⟩, _⟩ := hr6
    rw [LIM_eq] at m0
    rw [maxLen_eq] at m2 n2
    clear hs6 hq6 hx6 HSv5 HB5 HC5 HVb5 HR5 k0 k1 n0
    have k0 := cell_regrown (show w6.cell? ⟨W.heap.size, 0, none⟩ = some (.string t1) from cell_of_row _ _ 0 _ _ _ HB6.out)
    have k1 := cell_regrown (show w6.cell? ⟨W.heap.size, 1, none⟩ = some (.string i1) from cell_of_row _ _ 1 _ _ _ HB6.out)
    have k2 := cell_regrown (show w6.cell? ⟨W.heap.size + 1, 0, none⟩ = some (.string t2) from cell_of_row _ _ 0 _ _ _ HC6.out)
    have k3 := cell_regrown (show w6.cell? ⟨W.heap.size + 1, 1, none⟩ = some (.string i2) from cell_of_row _ _ 1 _ _ _ HC6.out)
    obtain ⟨tb, htb⟩ : ∃ tb, inB c (t1, i1) (t2, i2) = tb := ⟨_, rfl⟩
    have KI : Hid (∀ X, Ext w6 X → Calls Tryz.prog 28 #[pv, .agg #[.string t1, .string i1], .agg #[.string t2, .string i2]] X fun e w' => e = .returned (.bool tb) ∧ Ext X w') := Lib.hid fun X hX => by rw [← htb]; exact inV_ok pv c (t1, i1) (t2, i2) X HFa.out HFb.out (HSv6.out.ext hX)
    have KR : Hid (∀ X, Ext w6 X → Calls Tryz.prog 29 #[vb, .agg #[.string t1, .string i1], .agg #[.string t2, .string i2]] X fun e w' => e = .returned (.bool tb) ∧ Ext X w') := Lib.hid fun X hX => by rw [← htb]; exact in6_ok (fun b => b < w6.heap.size) c vb (t1, i1) (t2, i2) X (fun b hb => Nat.lt_of_lt_of_le hb hX.size) (HVb6.out.alike (Alike.of_ext hX fun _ h => h)) HTy.out HFa.out HFb.out
    clear htb
    have etb : (tb != tb) = false := by cases tb <;> rfl
    go_wp2_with fail
    refine region_later (by kernel_rfl) (by kernel_rfl) ?_
    iterate 9 (go_big_quiet_step (fail))
    go_big_quiet_step ((go_at_call 28; exact later_call KI.out _ _))
    iterate 3 (go_big_quiet_step (fail))
    go_big_quiet_step ((go_at_call 29; exact later_call KR.out _ _))
    iterate 2 (go_big_quiet_step (fail))
    refine wpQuiet_nil ?_
    intro w7 hw7
    have HX7 := Lib.hid hw7
    clear hw7 k0 k1 k2 k3
    go_wp2_with fail
    go_loopw [15] (fun i' wr => ∃ k : Nat, k ≤ l6.length ∧ i' = .int .i64 k ∧ Hid (Ext w6 wr)) (fun i' _ => l6.length - (intOf i').toNat)
    case atStart => exact ⟨0, Nat.zero_le _, rfl, HX7⟩
    case round =>
      clear HX7
      obtain ⟨k, hk, rfl, HX⟩ := hrel
      by_cases hlt : k < l6.length
      · obtain ⟨q, hq⟩ : ∃ q, l6[k]? = some q := ⟨_, List.getElem?_eq_getElem hlt⟩
        obtain ⟨A', c', ev, _, hr5⟩ := HR56.out
        injection ev with ev1 ev2 ev3
        clear ev2 ev3
        subst ev1
        obtain ⟨b5, o5, rfl, _, hr5⟩ := hr5 (by omega)
        obtain ⟨cs5, hc5, rfl, hfq⟩ := hr5 k q hq
        obtain ⟨A'', c'', ev, _, hr6⟩ := HR6.out
        injection ev with ev1 ev2 ev3
        clear ev2 ev3
        subst ev1
        obtain ⟨b6, o6, rfl, _, hr6⟩ := hr6 (by omega)
        obtain ⟨cs6, hc6, rfl, _⟩ := hr6 k q hq
        have g0 := cell_regrown (show wr.cell? ⟨b5, o5 + k * 2, none⟩ = some (.string q.1) from HX.out.cell (hc5 0 _ rfl))
        have g1 := cell_regrown (show wr.cell? ⟨b5, o5 + k * 2 + 1, none⟩ = some (.string q.2) from HX.out.cell (hc5 1 _ rfl))
        have g2 := cell_regrown (show wr.cell? ⟨b6, o6 + k * 2, none⟩ = some (.string q.1) from HX.out.cell (hc6 0 _ rfl))
        have g3 := cell_regrown (show wr.cell? ⟨b6, o6 + k * 2 + 1, none⟩ = some (.string q.2) from HX.out.cell (hc6 1 _ rfl))
        have HB7 := Lib.hid ((HX.out.block _ (Blk_lt HB6.out)).trans HB6.out)
        have k0 := cell_regrown (show wr.cell? ⟨W.heap.size, 0, none⟩ = some (.string t1) from cell_of_row _ _ 0 _ _ _ HB7.out)
        have k1 := cell_regrown (show wr.cell? ⟨W.heap.size, 1, none⟩ = some (.string i1) from cell_of_row _ _ 1 _ _ _ HB7.out)
        have hinb : inB c (t1, i1) q = true := inB_iff.2 (.inr ((HQ5.out q).1 (List.mem_of_getElem? hq)))
        have KI2 : Hid (∀ X, Ext wr X → Calls Tryz.prog 28 #[pv, .agg #[.string t1, .string i1], .agg #[.string q.1, .string q.2]] X fun e w' => e = .returned (.bool true) ∧ Ext X w') := Lib.hid fun X hX => by rw [← hinb]; exact inV_ok pv c (t1, i1) q X HFa.out hfq (HSv6.out.ext (HX.out.trans hX))
        have tq : ∀ w, (binOp .neq 31 (.agg #[.string q.1, .string q.2]) (.agg #[.string q.1, .string q.2])).run Tryz.prog w = .ok (.bool false) w := fun w => by have h := neqU q q w; simp at h; exact h
        have tq' : ∀ w, (Op.equalIn 10000 31 (.agg #[.string q.1, .string q.2]) (.agg #[.string q.1, .string q.2])).run Tryz.prog w = .ok true w := fun w => by have h := eqlU_in q q w; simp at h; exact h
        have tg : ∀ (y z : Operand) w, (eqGuard .neq 31 y z (.agg #[.string q.1, .string q.2]) (.agg #[.string q.1, .string q.2])).run Tryz.prog w = .ok () w := fun y z w => guardU _ y z q q w
        have Hlt := Lib.hid hlt
        clear hq hc5 hr5 hc6 hr6 hfq hinb
        go_wp2_with fail
        refine region_later (by kernel_rfl) (by kernel_rfl) ?_
        iterate 16 (go_big_quiet_step (fail))
        go_big_quiet_step ((go_at_call 28; exact later_call KI2.out _ _))
        iterate 2 (go_big_quiet_step (fail))
        refine wpQuiet_nil ?_
        intro w8 hw8
        have HX8 := Lib.hid (HX.out.trans hw8)
        clear hw8 k0 k1 g0 g1 g2 g3 tq tq' tg
        go_wp2_with fail
        go_roundw
        case rel => exact ⟨k + 1, by have := Hlt.out; omega, by go_num, HX8⟩
        case measure => have := Hlt.out; simp [intOf]; omega
      · go_wp2_with fail
        go_ret
        exact ⟨rfl, HX6.out.trans HX.out⟩
end Go.Proofs.YtjllolagcdjlnaaGreat
