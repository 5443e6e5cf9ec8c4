/-
  Entities that are few and small enough: the measure of the statements of layers 13 to 17. The conditions: they lie in memory as they should.
-/
import Derived.Test.YtebfoimbdljbmaaGreatDoorMeasQ
import Derived.Test.YtebfoimbdljbmaaGreatDoorGc
namespace Go.Proofs.YtebfoimbdljbmaaGreatDoor
open Go.RowKit

/-- few, and small enough -/
structure CrowdE (l : List Ent) : Prop where
  len : l.length ≤ 20
  each : ∀ e ∈ l, e.ps.length ≤ 20 ∧ e.av.dep ≤ 57

set_option maxRecDepth 100000 in
set_option maxHeartbeats 1600000 in
theorem crowd_ok14 (S : Nat → Prop) (l : List Ent) (v : Value) (w : World) (hS : ∀ b, S b → b < w.heap.size) (hl : entR.RowsAt S w l v) :
    Calls Tryz.prog 19 #[v] w (SomeBool (fun r => r = true → CrowdE l) w) := by
  obtain ⟨A, cap, rfl, ⟨hl0, hl1, hl2⟩, hlr⟩ := hl
  rw [LIM_eq] at hl0
  rw [maxLen_eq] at hl2
  have HS := Lib.hid hS
  have HL := Lib.hid hlr
  clear hS hlr
  go_enter Tryz.func19, Tryz.ntmps19
  go_wp2_with fail
  · go_ret
    exact ⟨false, by simp, rfl, Ext.refl _⟩
  · have hle : l.length ≤ 20 := by omega
    go_loopw [3] (fun i' wr => ∃ j : Nat, j ≤ l.length ∧ i' = .int .i64 j ∧ Hid (Ext w wr) ∧ Hid (∀ i x, i < j → l[i]? = some x → x.ps.length ≤ 20 ∧ x.av.dep ≤ 57)) (fun i' _ => l.length - (intOf i').toNat)
    case atStart => exact ⟨0, Nat.zero_le _, rfl, Lib.hid (Ext.refl _), Lib.hid fun _ _ h => by omega⟩
    case round =>
      obtain ⟨j, hj, rfl, HX, HA⟩ := hrel
      by_cases hlt : j < l.length
      · obtain ⟨b, o, rfl, hSb, hrow⟩ := HL.out (by omega)
        obtain ⟨x, hx⟩ : ∃ x, l[j]? = some x := ⟨_, List.getElem?_eq_getElem hlt⟩
        obtain ⟨cs, hca, hxa⟩ := hrow j x hx
        obtain ⟨_, _, _, _, ⟨pv, k2, hpv⟩, acs, hac, hat, hal⟩ := ent_cells (hca.alike hSb (Alike.of_ext HX.out HS.out)) (entR.alike hxa (Alike.of_ext HX.out HS.out))
        obtain ⟨A1, c1, rfl, ⟨p0, p1, p2⟩, _⟩ := hpv
        rw [LIM_eq] at p0
        rw [maxLen_eq] at p2
        obtain ⟨ka, ba, na, ta, uta, uia, Aa, la, ca, Ab, lb, cb, rfl⟩ := hat.shape
        have Hx := Lib.hid hx
        have Hac := Lib.hid hac
        have Hat := Lib.hid hat
        have Hal := Lib.hid hal
        have K2 := Lib.hid (show wr.cell? ⟨b, o + j * 11 + 2, none⟩ = _ from k2)
        clear hx hac hat hal hca hxa hrow k2
        have HSr := Lib.hid (show ∀ b, S b → b < wr.heap.size from fun b hb => Nat.lt_of_lt_of_le (HS.out b hb) HX.out.size)
        go_wp2_with (first | refine wpList_load_cells rfl 27 _ rfl b (o + j * 11 + 3) rfl Tryz.agg27 Tryz.size27 Hal.out Hac.out ?_)
        refine (slight_ok14 _ x.av 0 S wr [_, _, _, _, _, _, _, _] (Nat.le_refl _) (by omega) HSr.out Hat.out).mono ?_
        rintro e w2 ⟨r, hr, rfl, hx2⟩
        have HX2 := Lib.hid (HX.out.trans hx2)
        have HR := Lib.hid hr
        have k3 : w2.cell? ⟨b, o + j * 11 + 2, none⟩ = _ := hx2.cell K2.out
        clear hx2 hr
        cases r with
        | false =>
          go_wp2_with fail
          go_ret
          exact ⟨false, by simp, rfl, HX2.out⟩
        | true =>
          by_cases hp : 20 < x.ps.length
          · go_wp2_with fail
            go_ret
            exact ⟨false, by simp, rfl, HX2.out⟩
          · go_wp2_with fail
            go_roundw
            case rel => exact ⟨j + 1, by omega, by go_num, HX2, Lib.hid fun i y hi hy => by
              by_cases hij : i = j
              · subst hij; rw [Hx.out] at hy; cases hy; exact ⟨by omega, by have := HR.out (by trivial); omega⟩
              · exact HA.out i y (by omega) hy⟩
            case measure => simp [intOf]; omega
      · go_wp2_with fail
        go_ret
        exact ⟨true, fun _ => ⟨hle, fun e he => by
          obtain ⟨i, hi⟩ := List.mem_iff_getElem?.1 he
          exact HA.out i e (by have := (List.getElem?_eq_some_iff.1 hi).1; omega) hi⟩, rfl, HX.out⟩
end Go.Proofs.YtebfoimbdljbmaaGreatDoor
