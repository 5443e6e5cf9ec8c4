/-
  Are entities few and small enough: what the sixth layer's statements ask first. The conditions: they lie in memory as they should.
-/
import Derived.Test.YtjllolagcdjlnaaGreatGd
namespace Go.Proofs.YtjllolagcdjlnaaGreat
open Go.RowKit

set_option maxRecDepth 100000 in
set_option maxHeartbeats 1600000 in
theorem small6_ok (S : Nat → Prop) (l : List Ent) (v : Value) (w : World) (hS : ∀ b, S b → b < w.heap.size) (hl : entR.RowsAt S w l v) :
    Calls Tryz.prog 21 #[v] w (SomeBool (fun r => r = true → SmallE l) w) := by
  obtain ⟨A, cap, rfl, ⟨hl0, hl1, hl2⟩, hlr⟩ := hl
  rw [LIM_eq] at hl0
  rw [maxLen_eq] at hl2
  have HS := Lib.hid hS
  have HL := Lib.hid hlr
  clear hS hlr
  go_enter Tryz.func21, Tryz.ntmps21
  go_wp2_with fail
  · go_ret
    exact ⟨false, by simp, rfl, Ext.refl _⟩
  · have hle : l.length ≤ 20 := by omega
    go_loopw [3] (fun i' wr => ∃ j : Nat, j ≤ l.length ∧ i' = .int .i64 j ∧ Hid (Ext w wr) ∧ Hid (∀ i x, i < j → l[i]? = some x → x.ps.length ≤ 20 ∧ x.av.few 0 = true)) (fun i' _ => l.length - (intOf i').toNat)
    case atStart => exact ⟨0, Nat.zero_le _, rfl, Lib.hid (Ext.refl _), Lib.hid fun _ _ h => by omega⟩
    case round =>
      obtain ⟨j, hj, rfl, HX, HA⟩ := hrel
      by_cases hlt : j < l.length
      · obtain ⟨b, o, rfl, hSb, hrow⟩ := HL.out (by omega)
        obtain ⟨x, hx⟩ : ∃ x, l[j]? = some x := ⟨_, List.getElem?_eq_getElem hlt⟩
        obtain ⟨cs, hca, hxa⟩ := hrow j x hx
        obtain ⟨_, _, _, _, ⟨pv, k2, hpv⟩, acs, hac, hat, hal⟩ := ent_cells (hca.alike hSb (Alike.of_ext HX.out HS.out)) (entR.alike hxa (Alike.of_ext HX.out HS.out))
        obtain ⟨A1, c1, rfl, ⟨p0, p1, p2⟩, _⟩ := hpv
        rw [LIM_eq] at p0
        rw [maxLen_eq] at p2
        obtain ⟨ka, ba, na, ta, uta, uia, Aa, la, ca, Ab, lb, cb, rfl⟩ := hat.shape
        have Hx := Lib.hid hx
        have Hac := Lib.hid hac
        have Hat := Lib.hid hat
        have Hal := Lib.hid hal
        have K2 := Lib.hid (show wr.cell? ⟨b, o + j * 11 + 2, none⟩ = _ from k2)
        clear hx hac hat hal hca hxa hrow k2
        have HSr := Lib.hid (show ∀ b, S b → b < wr.heap.size from fun b hb => Nat.lt_of_lt_of_le (HS.out b hb) HX.out.size)
        go_wp2_with (first | refine wpList_load_cells rfl 35 _ rfl b (o + j * 11 + 3) rfl Tryz.agg27 Tryz.size27 Hal.out Hac.out ?_)
        refine (few_ok06 _ x.av 0 S wr [_, _, _, _, _, _, _, _] (Nat.le_refl _) (by omega) (by omega) HSr.out Hat.out).mono ?_
        rintro e w2 ⟨rfl, hx2⟩
        have HX2 := Lib.hid hx2
        cases hf : x.av.few 0 with
        | false =>
          clear hx2 hf
          go_wp2_with fail
          go_ret
          exact ⟨false, by simp, rfl, HX.out.trans HX2.out⟩
        | true =>
          have Hf := Lib.hid hf
          have c0 : w2.cell? ⟨b, o + j * 11 + 3, none⟩ = some (.int .i64 ka) := hx2.cell (Hac.out 0 _ rfl)
          have c1' : w2.cell? ⟨b, o + j * 11 + 3 + 1, none⟩ = some (.bool ba) := hx2.cell (Hac.out 1 _ rfl)
          have c2 : w2.cell? ⟨b, o + j * 11 + 3 + 2, none⟩ = some (.int .i64 na) := hx2.cell (Hac.out 2 _ rfl)
          have c3 : w2.cell? ⟨b, o + j * 11 + 3 + 3, none⟩ = some (.string ta) := hx2.cell (Hac.out 3 _ rfl)
          have c4 : w2.cell? ⟨b, o + j * 11 + 3 + 4, none⟩ = some (.string uta) := hx2.cell (Hac.out 4 _ rfl)
          have c5 : w2.cell? ⟨b, o + j * 11 + 3 + 5, none⟩ = some (.string uia) := hx2.cell (Hac.out 5 _ rfl)
          have c6 : w2.cell? ⟨b, o + j * 11 + 3 + 6, none⟩ = some (.slice Aa la ca) := hx2.cell (Hac.out 6 _ rfl)
          have c7 : w2.cell? ⟨b, o + j * 11 + 3 + 7, none⟩ = some (.slice Ab lb cb) := hx2.cell (Hac.out 7 _ rfl)
          clear hx2 hf
          go_wp2_with fail
          refine (size_ok06 _ x.av S w2 [_, _, _, _, _, _, _, _] (Nat.le_refl _) (fun b hb => Nat.lt_of_lt_of_le (HSr.out b hb) HX2.out.size) (Hat.out.alike (Alike.of_ext HX2.out HSr.out))).mono ?_
          rintro e w3 ⟨q, _, rfl, hx3⟩
          have HX3 := Lib.hid hx3
          have k3 : w3.cell? ⟨b, o + j * 11 + 2, none⟩ = _ := hx3.cell (HX2.out.cell K2.out)
          clear hx3 c0 c1' c2 c3 c4 c5 c6 c7
          by_cases hq : 100 < q
          · go_wp2_with fail
            go_ret
            exact ⟨false, by simp, rfl, HX.out.trans (HX2.out.trans HX3.out)⟩
          · by_cases hp : 20 < x.ps.length
            · go_wp2_with fail
              go_ret
              exact ⟨false, by simp, rfl, HX.out.trans (HX2.out.trans HX3.out)⟩
            · go_wp2_with fail
              go_roundw
              case rel => exact ⟨j + 1, by omega, by go_num, Lib.hid (HX.out.trans (HX2.out.trans HX3.out)), Lib.hid fun i y hi hy => by
                by_cases hij : i = j
                · subst hij; rw [Hx.out] at hy; cases hy; exact ⟨by omega, Hf.out⟩
                · exact HA.out i y (by omega) hy⟩
              case measure => simp [intOf]; omega
      · go_wp2_with fail
        go_ret
        exact ⟨true, fun _ => ⟨hle, fun e he => by
          obtain ⟨i, hi⟩ := List.mem_iff_getElem?.1 he
          exact HA.out i e (by have := (List.getElem?_eq_some_iff.1 hi).1; omega) hi⟩, rfl, HX.out⟩
end Go.Proofs.YtjllolagcdjlnaaGreat
