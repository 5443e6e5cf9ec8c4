/-
  FamilyNames: what the statement's own function answers. The conditions: the argument lies in memory as it should.
-/
import Derived.Test.YtjllolagcdjlnaaGreatAnyFM
namespace Go.Proofs.YtjllolagcdjlnaaGreat
open Go.RowKit

theorem parent_up {l : List Ent} (h : Good l) {e : Ent} (he : e ∈ l) {p : Uid} (hp : p ∈ e.ps) : UpTo (canonE l).1 e.uid p := (upTo_canon h).2 (.one ⟨e, he, rfl, hp, (h.ones e he).2.2 p hp⟩)
theorem parent_in {l : List Ent} (h : Good l) {e : Ent} (he : e ∈ l) {p : Uid} (hp : p ∈ e.ps) : inB (canonE l).1 e.uid p = true ∧ inB (canonE l).1 p e.uid = false := by
  have h1 := parent_up h he hp
  have hg := canonE_good h
  refine ⟨inB_iff.2 (.inr h1), ?_⟩
  cases hb : inB (canonE l).1 p e.uid with
  | false => rfl
  | true =>
    rcases inB_iff.1 hb with h2 | h2
    · rw [h2] at h1
      exact absurd h1 (upTo_open hg.names hg.round _)
    · exact absurd (h2.trans h1) (upTo_open hg.names hg.round _)
theorem inB_self (c : List Ent) (u : Uid) : inB c u u = true := inB_iff.2 (.inl rfl)

set_option maxRecDepth 100000 in
set_option maxHeartbeats 4000000 in
theorem familyNames_walk (l : List Ent) (W : World) (v : Value) (hl : entR.RowsAt (fun b => b < W.heap.size) W l v) :
    Calls Tryz.prog 10 #[v] W fun e W' => e = .returned (.bool true) ∧ Ext W W' := by
  have HR := Lib.hid hl
  obtain ⟨A, cap, rfl, ⟨hl0, hl1, hl2⟩, hlr⟩ := hl
  rw [maxLen_eq] at hl2
  have HL := Lib.hid hlr
  have hfit := ents_fit HR.out
  have HFit := Lib.hid hfit
  clear hlr hl0 hfit
  go_enter Tryz.func10, Tryz.ntmps10
  go_wp2_with fail
  refine (awake6_ok _).mono ?_
  rintro e w1 ⟨rfl, hx1⟩
  have HX1 := Lib.hid hx1
  clear hx1
  go_wp2_with fail
  refine (small6_ok (fun b => b < W.heap.size) l _ w1 (fun b hb => Nat.lt_of_lt_of_le hb HX1.out.size) (HR.out.alike (Alike.of_ext HX1.out fun _ h => h))).mono ?_
  rintro e w2 ⟨r, hr, rfl, hx2⟩
  have HX2 := Lib.hid (HX1.out.trans hx2)
  cases r with
  | false =>
    clear hr hx2
    go_wp2_with fail
    go_ret
    exact ⟨rfl, HX2.out⟩
  | true =>
    have hsm := hr rfl
    have hl20 := hsm.len
    have HP : Hid (∀ e ∈ l, e.ps.length ≤ 1000) := Lib.hid fun e he => by have := (hsm.each e he).1; omega
    have HD : Hid (∀ e ∈ l, e.av.dep ≤ 1000000) := Lib.hid hsm.lens.2.2
    clear hr hx2 hsm
    go_wp2_with fail
    refine (loadV_ok (fun b => b < W.heap.size) l _ w2 (fun b hb => Nat.lt_of_lt_of_le hb HX2.out.size) (HR.out.alike (Alike.of_ext HX2.out fun _ h => h)) (by omega) HP.out HD.out).mono ?_
    rintro e w3 ⟨pv, rfl, hsv, hn1, hn2, hx3⟩
    have HX3 := Lib.hid (HX2.out.trans hx3)
    have HSv3 := Lib.hid hsv
    clear hsv hn1 hn2 hx3
    by_cases hg : Good l
    · rw [canonE_iff.2 hg]
      have HG := Lib.hid hg
      clear hg
      go_wp2_with fail
      go_loopw [7] (fun i' wr => ∃ i : Nat, i ≤ l.length ∧ i' = .int .i64 i ∧ Hid (Ext w3 wr)) (fun i' _ => l.length - (intOf i').toNat)
      case atStart => exact ⟨0, Nat.zero_le _, rfl, Lib.hid (Ext.refl _)⟩
      case round =>
        obtain ⟨i, hi, rfl, HX⟩ := hrel
        by_cases hlt : i < l.length
        · obtain ⟨b, o, rfl, hSb, hrow⟩ := HL.out (by omega)
          obtain ⟨x, hx⟩ : ∃ x, l[i]? = some x := ⟨_, List.getElem?_eq_getElem hlt⟩
          obtain ⟨cs, hca, hxa⟩ := hrow i x hx
          obtain ⟨k0, k1, _, _, ⟨pv', k2, hpv⟩, _⟩ := ent_cells hca hxa
          obtain ⟨A1, c1, rfl, ⟨p0, p1, p2⟩, hpr⟩ := hpv
          rw [LIM_eq] at p0
          rw [maxLen_eq] at p2
          have HX0r := Lib.hid (HX3.out.trans HX.out)
          have K0 := Lib.hid (show W.cell? ⟨b, o + i * 11, none⟩ = _ from k0)
          have K1 := Lib.hid (show W.cell? ⟨b, o + i * 11 + 1, none⟩ = _ from k1)
          have K2 := Lib.hid (show W.cell? ⟨b, o + i * 11 + 2, none⟩ = _ from k2)
          have HPr := Lib.hid hpr
          have Hx := Lib.hid hx
          have HFx := Lib.hid (HFit.out x (List.mem_of_getElem? hx))
          have Hlt := Lib.hid hlt
          have HSvr := Lib.hid (HSv3.out.ext HX.out)
          clear hx hca hxa hrow k0 k1 k2 hpr hSb
          have c0 := HX0r.out.cell K0.out
          have c1' := HX0r.out.cell K1.out
          go_wp2_with fail
          refine (getV_ok pv (canonE l).1 x.uid wr HFx.out HSvr.out).mono ?_
          rintro e w4 ⟨cs4, b4, rfl, hcs4, hx4⟩
          have HX4 := Lib.hid (HX0r.out.trans hx4)
          have HX34 := Lib.hid (HX.out.trans hx4)
          obtain ⟨iy, y, hiy, hcy, rfl, hat⟩ : ∃ i y, idx ((canonE l).1.map Ent.uid) x.uid = some i ∧ (canonE l).1[i]? = some y ∧ b4 = true ∧ entR.At (FreshU wr.heap.size w4) w4 y cs4 := by
            rcases hcs4 with ⟨h, _⟩ | h
            · have hm : x.uid ∈ (canonE l).1.map Ent.uid := (canonE_names HG.out).mem_iff.2 (List.mem_map.2 ⟨x, List.mem_of_getElem? Hx.out, rfl⟩)
              exact absurd hm (idx_none.1 h)
            · exact h
          have hyu : y.uid = x.uid := by
            have h := idx_get hiy
            rw [List.getElem?_map, hcy] at h
            exact Option.some.inj h
          obtain ⟨E1, l1, d1, q1, q2, q3, q4, q5, q6, E2, l2, d2, E3, l3, d3, rfl⟩ := ent_shape hat
          rw [hyu]
          have HSv4 := Lib.hid (HSv3.out.ext HX34.out)
          clear c0 c1' hcs4 hx4 hiy hcy hat hyu HX0r HX HSvr
          go_wp2_with fail
          obtain ⟨w5, hw5⟩ : ∃ w5, w5 = w4.alloc (.cells #[.string x.uid.1, .string x.uid.2, .slice E1 l1 d1, .int .i64 q1, .bool q2, .int .i64 q3, .string q4, .string q5, .string q6, .slice E2 l2 d2, .slice E3 l3 d3] 37) := ⟨_, rfl⟩
          have hx5 : Ext w4 w5 := hw5 ▸ (Ext.refl w4).alloc _
          have hb5 : w5.heap[w4.heap.size]? = some (.cells #[.string x.uid.1, .string x.uid.2, .slice E1 l1 d1, .int .i64 q1, .bool q2, .int .i64 q3, .string q4, .string q5, .string q6, .slice E2 l2 d2, .slice E3 l3 d3] 37 (0, 0)) := hw5 ▸ heap_alloc_new _ _
          rw [← hw5]
          have HX5 := Lib.hid (HX4.out.trans hx5)
          have HX35 := Lib.hid (HX34.out.trans hx5)
          have HSv5 := Lib.hid (HSv4.out.ext hx5)
          have g0 := cell_regrown (show w5.cell? ⟨w4.heap.size, 0, none⟩ = some (.string x.uid.1) from cell_of_row _ _ 0 _ _ _ hb5)
          have g1 := cell_regrown (show w5.cell? ⟨w4.heap.size, 1, none⟩ = some (.string x.uid.2) from cell_of_row _ _ 1 _ _ _ hb5)
          have g2 := cell_regrown (HX5.out.cell K0.out)
          have g3 := cell_regrown (HX5.out.cell K1.out)
          clear hw5 hx5 hb5 HX4 HX34 HSv4
          have tq : ∀ w, (binOp .neq 31 (.agg #[.string x.uid.1, .string x.uid.2]) (.agg #[.string x.uid.1, .string x.uid.2])).run Tryz.prog w = .ok (.bool false) w := fun w => by have h := neqU x.uid x.uid w; simp at h; exact h
          have tq' : ∀ w, (Op.equalIn 10000 31 (.agg #[.string x.uid.1, .string x.uid.2]) (.agg #[.string x.uid.1, .string x.uid.2])).run Tryz.prog w = .ok true w := fun w => by have h := eqlU_in x.uid x.uid w; simp at h; exact h
          have tg : ∀ (y z : Operand) w, (eqGuard .neq 31 y z (.agg #[.string x.uid.1, .string x.uid.2]) (.agg #[.string x.uid.1, .string x.uid.2])).run Tryz.prog w = .ok () w := fun y z w => guardU _ y z x.uid x.uid w
          have KI : Hid (∀ X, Ext w5 X → Calls Tryz.prog 28 #[pv, .agg #[.string x.uid.1, .string x.uid.2], .agg #[.string x.uid.1, .string x.uid.2]] X fun e w' => e = .returned (.bool true) ∧ Ext X w') := Lib.hid fun X hX => by
            have h := inV_ok pv (canonE l).1 x.uid x.uid X HFx.out HFx.out (HSv5.out.ext hX)
            rw [inB_self] at h
            exact h
          refine region_later (by kernel_rfl) (by kernel_rfl) ?_
          iterate 24 (go_big_quiet_step (fail))
          go_big_quiet_step ((go_at_call 28; exact later_call KI.out _ _))
          iterate 2 (go_big_quiet_step (fail))
          refine wpQuiet_nil ?_
          intro w6 hw6
          have HX6 := Lib.hid (HX35.out.trans hw6)
          clear hw6 g0 g1 g2 g3 tq tq' tg KI HX5 HX35 HSv5
          go_wp2_with fail
          rename World => wz
          go_loopw [10] (fun k' wr => ∃ k : Nat, k ≤ x.ps.length ∧ k' = .int .i64 k ∧ Hid (Ext w3 wr)) (fun k' _ => x.ps.length - (intOf k').toNat)
          case atStart => exact ⟨0, Nat.zero_le _, rfl, HX6⟩
          case round =>
            clear HX6
            obtain ⟨k, hk, rfl, HX⟩ := hrel
            have HX0r := Lib.hid (HX3.out.trans HX.out)
            have c2 := HX0r.out.cell K2.out
            by_cases hkt : k < x.ps.length
            · obtain ⟨pb, po, rfl, hSp, hprow⟩ := HPr.out (by omega)
              obtain ⟨p, hp⟩ : ∃ p, x.ps[k]? = some p := ⟨_, List.getElem?_eq_getElem hkt⟩
              obtain ⟨pcs, hpc, rfl, hfp⟩ := hprow k p hp
              have HFp := Lib.hid hfp
              have Hkt := Lib.hid hkt
              have hpin := parent_in HG.out (List.mem_of_getElem? Hx.out) (List.mem_of_getElem? hp)
              have HSvr := Lib.hid (HSv3.out.ext HX.out)
              have g0 := cell_regrown (HX0r.out.cell K0.out)
              have g1 := cell_regrown (HX0r.out.cell K1.out)
              have g2 := cell_regrown c2
              have g3 := cell_regrown (HX0r.out.cell (show W.cell? ⟨pb, po + k * 2, none⟩ = some (.string p.1) from hpc 0 _ rfl))
              have g4 := cell_regrown (HX0r.out.cell (show W.cell? ⟨pb, po + k * 2 + 1, none⟩ = some (.string p.2) from hpc 1 _ rfl))
              have KI : Hid (∀ X, Ext wr X → Calls Tryz.prog 28 #[pv, .agg #[.string x.uid.1, .string x.uid.2], .agg #[.string p.1, .string p.2]] X fun e w' => e = .returned (.bool true) ∧ Ext X w') := Lib.hid fun X hX => by
                have h := inV_ok pv (canonE l).1 x.uid p X HFx.out HFp.out (HSvr.out.ext hX)
                rw [hpin.1] at h
                exact h
              have KJ : Hid (∀ X, Ext wr X → Calls Tryz.prog 28 #[pv, .agg #[.string p.1, .string p.2], .agg #[.string x.uid.1, .string x.uid.2]] X fun e w' => e = .returned (.bool false) ∧ Ext X w') := Lib.hid fun X hX => by
                have h := inV_ok pv (canonE l).1 p x.uid X HFp.out HFx.out (HSvr.out.ext hX)
                rw [hpin.2] at h
                exact h
              clear hp hpc hprow hfp hSp hpin
              go_wp2_with fail
              refine region_later (by kernel_rfl) (by kernel_rfl) ?_
              iterate 14 (go_big_quiet_step (fail))
              go_big_quiet_step ((go_at_call 28; exact later_call KI.out _ _))
              iterate 16 (go_big_quiet_step (fail))
              go_big_quiet_step ((go_at_call 28; exact later_call KJ.out _ _))
              iterate 1 (go_big_quiet_step (fail))
              refine wpQuiet_nil ?_
              intro w6 hw6
              have HX6 := Lib.hid (HX.out.trans hw6)
              clear hw6 g0 g1 g2 g3 g4 c2
              go_wp2_with fail
              go_roundw
              case rel => exact ⟨k + 1, by have := Hkt.out; omega, by go_num, HX6⟩
              case measure => have := Hkt.out; simp [intOf]; omega
            · go_wp2_with fail
              go_roundw
              case rel => exact ⟨i + 1, by have := Hlt.out; omega, by go_num, HX⟩
              case measure => have := Hlt.out; simp [intOf]; omega
        · go_wp2_with fail
          refine (allV_ok pv (canonE l).1 wr (HSv3.out.ext HX.out)).mono ?_
          rintro e w4 ⟨v4, rfl, ho4, hx4⟩
          obtain ⟨A4, c4, rfl⟩ := ho4.shape
          rw [canonE_length HG.out]
          have HX4 := Lib.hid ((HX3.out.trans HX.out).trans hx4)
          clear ho4 hx4
          go_wp2_with fail
          go_ret
          exact ⟨by simp, HX4.out⟩
    · have hc0 : (canonE l).2 ≠ 0 := fun h => hg (canonE_iff.1 h)
      have hb : (canonE l).1 = [] := canonE_bad hg
      rw [hb] at HSv3
      obtain ⟨er, herr⟩ : ∃ er, er = (canonE l).2 := ⟨_, rfl⟩
      rw [← herr] at hc0 ⊢
      have e0 : (er != 0) = true := by simp [hc0]
      clear hb hg herr hc0
      go_wp2_with fail
      refine (allV_ok pv [] w3 HSv3.out).mono ?_
      rintro e w4 ⟨v4, rfl, ho4, hx4⟩
      obtain ⟨A4, c4, rfl⟩ := ho4.shape
      have HX4 := Lib.hid (HX3.out.trans hx4)
      clear ho4 hx4
      go_wp2_with fail
      go_ret
      exact ⟨rfl, HX4.out⟩
end Go.Proofs.YtjllolagcdjlnaaGreat
