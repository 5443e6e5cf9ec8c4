/-
  EvalScopes: what the statement's own function answers. The conditions: the arguments lie in memory as they should; the table of operators lies as it is laid at the start.
-/
import Derived.Test.YtebfoimbdljbmaaGreatDoorRefH5Q
import Derived.Test.YtebfoimbdljbmaaGreatDoorGl
import Derived.Test.YtebfoimbdljbmaaGreatDoorCrowdQ
import Derived.Test.YtebfoimbdljbmaaGreatDoorGh
namespace Go.Proofs.YtebfoimbdljbmaaGreatDoor
open Go.RowKit
theorem Tryz.aggSc : ∀ w, (isAgg 52).run Tryz.prog w = .ok true w := fun _ => by kernel_rfl
theorem Tryz.sizeSc : ∀ w, (Go.sizeOf 52).run Tryz.prog w = .ok 6 w := fun _ => by kernel_rfl
set_option maxRecDepth 100000 in
set_option maxHeartbeats 4000000 in
theorem evalScopes_walk (p : Scp) (u : Uid) (l : List Ent) (W : World) (pc : List Value) (v : Value) (hp : scpR.At (fun b => b < W.heap.size) W p pc) (hu : FitU u) (hl : entR.RowsAt (fun b => b < W.heap.size) W l v) (hs : Sums W) :
    Calls Tryz.prog 6 #[.agg pc.toArray, valU u, v] W fun e W' => e = .returned (.bool true) ∧ Ext W W' := by
  have HPe := Lib.hid hp
  have HU := Lib.hid hu
  have HS := Lib.hid hs
  have HL := Lib.hid hl
  obtain ⟨pk, ty, ⟨d1, d2⟩, ps, pl⟩ := p
  obtain ⟨v0, rfl, _, _, _, hpl⟩ := hp
  obtain ⟨pA, pcap, rfl, ⟨hp0, _, _⟩, _⟩ := hpl
  obtain ⟨u1, u2⟩ := u
  obtain ⟨A, cap, rfl, _⟩ := id hl
  have hp0 : pl.length ≤ LIM := hp0
  rw [LIM_eq] at hp0
  obtain ⟨p0, p1, qs, px⟩ := heapA2 W (.cells #[.int .i64 pk, .string ty, .string d1, .string d2, .bool ps, .slice pA pl.length pcap] 52) (.cells #[.string u1, .string u2] 23)
  have HE0 := Lib.hid p0
  have HQ0 := Lib.hid p1
  have HX0 := Lib.hid px
  clear p0 p1 qs px hu hs hl
  show Calls Tryz.prog 6 #[.agg ([.int .i64 pk, .string ty, .string d1, .string d2, .bool ps, .slice pA pl.length pcap] : List Value).toArray, .agg #[.string u1, .string u2], .slice A l.length cap] W _
  go_enter Tryz.func6, Tryz.ntmps6
  go_wp2_with fail
  refine (awake14_ok _ (HS.out.ext HX0.out)).mono ?_
  rintro e1 w1 ⟨rfl, hx1⟩
  have HX1 := Lib.hid (HX0.out.trans hx1)
  have HE1 := Lib.hid ((hx1.block _ (Blk_lt HE0.out)).trans HE0.out)
  have HQ1 := Lib.hid ((hx1.block _ (Blk_lt HQ0.out)).trans HQ0.out)
  clear hx1 HX0 HE0 HQ0
  go_wp2_with fail
  refine (crowd_ok14 (fun b => b < W.heap.size) l _ w1 (fun b hb => Nat.lt_of_lt_of_le hb HX1.out.size) (HL.out.alike (Alike.of_ext HX1.out fun _ h => h))).mono ?_
  rintro e2 w2 ⟨r, hr, rfl, hx⟩
  have HX2 := Lib.hid (HX1.out.trans hx)
  have HE2 := Lib.hid ((hx.block _ (Blk_lt HE1.out)).trans HE1.out)
  have HQ2 := Lib.hid ((hx.block _ (Blk_lt HQ1.out)).trans HQ1.out)
  have HR := Lib.hid hr
  clear hx HX1 HE1 HQ1 hr
  have c5 : w2.cell? ⟨W.heap.size, 5, none⟩ = some (.slice pA pl.length pcap) := cell_of_row _ _ 5 _ _ _ HE2.out
  cases r with
  | false =>
    clear c5
    go_wp2_with fail
    go_ret
    exact ⟨rfl, HX2.out⟩
  | true =>
  have HF := Lib.hid (HR.out rfl)
  clear HR
  by_cases h20 : 20 < pl.length
  · have t0 : decide ((20 : Int) < (pl.length : Int)) = true := by simp; omega
    go_wp2_with fail
    go_ret
    exact ⟨rfl, HX2.out⟩
  have t0 : decide ((20 : Int) < (pl.length : Int)) = false := by simp; omega
  have hsm := HF.out
  have hl20 := hsm.len
  have HP : Hid (∀ e ∈ l, e.ps.length ≤ 1000) := Lib.hid fun e he => by have := (hsm.each e he).1; omega
  have HD : Hid (∀ e ∈ l, e.av.dep ≤ 1000000) := Lib.hid fun e he => by have := (hsm.each e he).2; omega
  have HL2 : Hid (entR.RowsAt (fun b => b < w2.heap.size) w2 l (.slice A l.length cap)) := Lib.hid ((HL.out.alike (Alike.of_ext HX2.out fun _ h => h)).mono fun b hb => Nat.lt_of_lt_of_le hb HX2.out.size)
  clear hsm HL HF
  go_wp2_with fail
  clear c5 t0 h20
  refine (loadV_ok (fun b => b < w2.heap.size) l _ w2 (fun _ h => h) HL2.out (by omega) HP.out HD.out).mono ?_
  rintro e3 w3 ⟨pv, rfl, hsv, _, _, hx3⟩
  have HX3 := Lib.hid (HX2.out.trans hx3)
  have HE3 := Lib.hid ((hx3.block _ (Blk_lt HE2.out)).trans HE2.out)
  have HQ3 := Lib.hid ((hx3.block _ (Blk_lt HQ2.out)).trans HQ2.out)
  have HSv3 := Lib.hid hsv
  have Hx3 := Lib.hid hx3
  clear hsv hx3
  go_wp2_with fail
  refine (canon5_ok (fun b => b < w2.heap.size) l _ w3 (fun b hb => Nat.lt_of_lt_of_le hb Hx3.out.size) (HL2.out.alike (Alike.of_ext Hx3.out fun _ h => h)) (by omega) HP.out HD.out).mono ?_
  rintro e4 w4 ⟨vb, rfl, hvb, hx4⟩
  have hcl := HSv3.out.tidy
  obtain ⟨c, hcc⟩ : ∃ c, c = (canonE l).1 := ⟨_, rfl⟩
  obtain ⟨er, herr⟩ : ∃ er, er = (canonE l).2 := ⟨_, rfl⟩
  rw [← hcc] at hvb hcl HSv3
  rw [← herr]
  obtain ⟨vA4, vc4, rfl, _⟩ := id hvb
  have HX4 := Lib.hid (HX3.out.trans hx4)
  have HE4 := Lib.hid ((hx4.block _ (Blk_lt HE3.out)).trans HE3.out)
  have HQ4 := Lib.hid ((hx4.block _ (Blk_lt HQ3.out)).trans HQ3.out)
  have HSv4 := Lib.hid (HSv3.out.ext hx4)
  have HV4 := Lib.hid hvb
  have HT := Lib.hid hcl
  clear hvb hcl hx4 HSv3 hcc herr HP HD HX3
  obtain ⟨⟨tb, te⟩, hres⟩ : ∃ r, (Scp.mk pk ty (d1, d2) ps pl).holds c (u1, u2) = r := ⟨_, rfl⟩
  have HRs := Lib.hid hres
  have HM := Lib.hid (holdsM_ok (c := c) (Scp.mk pk ty (d1, d2) ps pl) (u1, u2) pv w4 [.int .i64 pk, .string ty, .string d1, .string d2, .bool ps, .slice pA pl.length pcap] HU.out ((scpR.alike HPe.out (Alike.of_ext HX4.out fun _ h => h)) |> fun h => scpR.mono h fun b hb => Nat.lt_of_lt_of_le hb HX4.out.size) HSv4.out)
  rw [hres] at HM
  clear hres HSv4
  go_wp2_with (first | (with_reducible refine at_load ?_; refine wpList_load_cells rfl 52 _ rfl W.heap.size 0 rfl Tryz.aggSc Tryz.sizeSc (cs := [.int .i64 pk, .string ty, .string d1, .string d2, .bool ps, .slice pA pl.length pcap]) rfl (cells_of_row HE4.out) ?_) | (with_reducible refine at_load ?_; refine wpList_load_cells rfl 23 _ rfl (W.heap.size + 1) 0 rfl Tryz.agg23 Tryz.size23 (cs := [.string u1, .string u2]) rfl (cells_of_row HQ4.out) ?_))
  refine HM.out.mono ?_
  rintro e5 w5 ⟨rfl, hx5⟩
  have HX5 := Lib.hid (HX4.out.trans hx5)
  have HE5 := Lib.hid ((hx5.block _ (Blk_lt HE4.out)).trans HE4.out)
  have HQ5 := Lib.hid ((hx5.block _ (Blk_lt HQ4.out)).trans HQ4.out)
  have HRf := Lib.hid (refHolds_ok (fun b => b < w4.heap.size) c (.slice vA4 c.length vc4) (Scp.mk pk ty (d1, d2) ps pl) (u1, u2) w5 [.int .i64 pk, .string ty, .string d1, .string d2, .bool ps, .slice pA pl.length pcap] (fun b hb => Nat.lt_of_lt_of_le hb hx5.size) HU.out ((scpR.alike HPe.out (Alike.of_ext HX5.out fun _ h => h)) |> fun h => scpR.mono h fun b hb => Nat.lt_of_lt_of_le hb HX5.out.size) (HV4.out.alike (Alike.of_ext hx5 fun _ h => h)) HT.out)
  rw [HRs.out] at HRf
  clear hx5 HM HX4 HE4 HQ4 HV4 HT
  go_wp2_with (first | (with_reducible refine at_load ?_; refine wpList_load_cells rfl 52 _ rfl W.heap.size 0 rfl Tryz.aggSc Tryz.sizeSc (cs := [.int .i64 pk, .string ty, .string d1, .string d2, .bool ps, .slice pA pl.length pcap]) rfl (cells_of_row HE5.out) ?_) | (with_reducible refine at_load ?_; refine wpList_load_cells rfl 23 _ rfl (W.heap.size + 1) 0 rfl Tryz.agg23 Tryz.size23 (cs := [.string u1, .string u2]) rfl (cells_of_row HQ5.out) ?_))
  refine HRf.out.mono ?_
  rintro e6 w6 ⟨rfl, hx6⟩
  have HX6 := Lib.hid (HX5.out.trans hx6)
  clear hx6 HRf
  cases tb
  all_goals
    go_wp2_with fail
    go_ret
    exact ⟨rfl, HX6.out⟩
end Go.Proofs.YtebfoimbdljbmaaGreatDoor
