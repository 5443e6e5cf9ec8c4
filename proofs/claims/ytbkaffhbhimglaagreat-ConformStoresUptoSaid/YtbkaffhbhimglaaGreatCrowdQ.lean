/-
  Entities that are few and small enough: the measure of the statements of layers 13 to 17. The conditions: they lie in memory as they should.
-/
import Derived.Test.YtbkaffhbhimglaaGreatMeasQ
import Derived.Test.YtbkaffhbhimglaaGreatGc
namespace Go.Proofs.YtbkaffhbhimglaaGreat
open Go.RowKit
open Lib renaming hid → q_
set_option maxRecDepth 100000
set_option maxHeartbeats 1600000
structure CrowdE (l : List Ent) : Prop where
 len : l.length ≤ 20
 each : ∀ e ∈ l, e.ps.length ≤ 20 ∧ e.av.dep ≤ 57
theorem crowd_ok13 (S : Nat → Prop) (l : List Ent) (v : Value) (w : World) (hS : ∀ b, S b → b < w.heap.size) (hl : entR.RowsAt S w l v) :
  Calls Tryz.prog 6 #[v] w (zcm (fun r => r = true → CrowdE l) w) := by
 obtain ⟨A, cap, rfl, ⟨hl0, hl1, hl2⟩, hlr⟩ := hl
 rw [zak] at hl0
 rw [zab] at hl2
 have HS := q_ hS
 have HL := q_ hlr
 clear hS hlr
 go_enter Tryz.func6, Tryz.ntmps6
 go_wp2_with fail
 ·go_ret
  exact ⟨false, by simp, rfl, Ext.refl _⟩
 ·have hle : l.length ≤ 20 := by omega
  go_loopw [3] (fun i' wr => ∃ j : Nat, j ≤ l.length ∧ i' = .int .i64 j ∧ Hid (Ext w wr) ∧ Hid (∀ i x, i < j → l[i]? = some x → x.ps.length ≤ 20 ∧ x.av.dep ≤ 57)) (fun i' _ => l.length - (intOf i').toNat)
  case atStart => exact ⟨0, Nat.zero_le _, rfl, q_ (Ext.refl _), q_ fun _ _ h => by omega⟩
  case round =>
   obtain ⟨j, hj, rfl, HX, HA⟩ := hrel
   by_cases hlt : j < l.length
   ·obtain ⟨b, o, rfl, hSb, hrow⟩ := HL.out (by omega)
    obtain ⟨x, hx⟩ : ∃ x, l[j]? = some x := ⟨_, List.getElem?_eq_getElem hlt⟩
    obtain ⟨cs, hca, hxa⟩ := hrow j x hx
    obtain ⟨_, _, _, _, ⟨pv, k2, hpv⟩, acs, hac, hat, hal⟩ := zcp (hca.alike hSb (Alike.of_ext HX.out HS.out)) (entR.alike hxa (Alike.of_ext HX.out HS.out))
    obtain ⟨A1, c1, rfl, ⟨p0, p1, p2⟩, _⟩ := hpv
    rw [zak] at p0
    rw [zab] at p2
    obtain ⟨ka, ba, na, ta, uta, uia, Aa, la, ca, Ab, lb, cb, rfl⟩ := hat.shape
    have Hx := q_ hx
    have Hac := q_ hac
    have Hat := q_ hat
    have Hal := q_ hal
    have K2 := q_ (show wr.cell? ⟨b, o + j * 11 + 2, none⟩ = _ from k2)
    clear hx hac hat hal hca hxa hrow k2
    have HSr := q_ (show ∀ b, S b → b < wr.heap.size from fun b hb => Nat.lt_of_lt_of_le (HS.out b hb) HX.out.size)
    go_wp2_with (first | refine zac rfl 46 _ rfl b (o + j * 11 + 3) rfl zai zaf Hal.out Hac.out ?_)
    refine (slight_ok13 _ x.av 0 S wr [_, _, _, _, _, _, _, _] (Nat.le_refl _) (by omega) HSr.out Hat.out).mono ?_
    rintro e w2 ⟨r, hr, rfl, hx2⟩
    have HX2 := q_ (HX.out.trans hx2)
    have HR := q_ hr
    have k3 : w2.cell? ⟨b, o + j * 11 + 2, none⟩ = _ := hx2.cell K2.out
    clear hx2 hr
    cases r with
    | false =>
     go_wp2_with fail
     go_ret
     exact ⟨false, by simp, rfl, HX2.out⟩
    | true =>
     by_cases hp : 20 < x.ps.length
     ·go_wp2_with fail
      go_ret
      exact ⟨false, by simp, rfl, HX2.out⟩
     ·go_wp2_with fail
      go_roundw
      case rel => exact ⟨j + 1, by omega, by go_num, HX2, q_ fun i y hi hy => by
       by_cases hij : i = j
       ·subst hij; rw [Hx.out] at hy; cases hy; exact ⟨by omega, by have := HR.out (by trivial); omega⟩
       ·exact HA.out i y (by omega) hy⟩
      case measure => simp [intOf]; omega
   ·go_wp2_with fail
    go_ret
    exact ⟨true, fun _ => ⟨hle, fun e he => by
     obtain ⟨i, hi⟩ := List.mem_iff_getElem?.1 he
     exact HA.out i e (by have := (List.getElem?_eq_some_iff.1 hi).1; omega) hi⟩, rfl, HX.out⟩
end Go.Proofs.YtbkaffhbhimglaaGreat
