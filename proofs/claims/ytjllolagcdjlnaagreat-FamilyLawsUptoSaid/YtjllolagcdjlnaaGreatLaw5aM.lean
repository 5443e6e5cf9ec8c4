/-
  EntityCanons: what the statement's own function answers. The conditions: the entities lie in memory as they should.
-/
import Derived.Test.YtjllolagcdjlnaaGreatGh
import Derived.Test.YtjllolagcdjlnaaGreatLaw5tM
namespace Go.Proofs.YtjllolagcdjlnaaGreat
open Go.RowKit

theorem canonE_len (l : List Ent) : (canonE l).1.length ≤ l.length := by
  by_cases h : Good l
  · rw [canonE_length h]; exact Nat.le_refl _
  · rw [canonE_bad h]; simp
set_option maxRecDepth 100000 in
set_option maxHeartbeats 4000000 in
theorem entityCanons_walk (l : List Ent) (W : World) (v : Value) (hl : entR.RowsAt (fun b => b < W.heap.size) W l v) :
    Calls Tryz.prog 3 #[v] W fun e W' => e = .returned (.bool true) ∧ Ext W W' := by
  have HR := Lib.hid hl
  obtain ⟨A, cap, rfl, ⟨hl0, hl1, hl2⟩, hlr⟩ := hl
  rw [maxLen_eq] at hl2
  clear hlr hl0
  go_enter Tryz.func3, Tryz.ntmps3
  go_wp2_with fail
  refine (awake5_ok _).mono ?_
  rintro e w1 ⟨rfl, hx1⟩
  have HX1 := Lib.hid hx1
  clear hx1
  go_wp2_with fail
  refine (small_ok (fun b => b < W.heap.size) l _ w1 (fun b hb => Nat.lt_of_lt_of_le hb HX1.out.size) (HR.out.alike (Alike.of_ext HX1.out fun _ h => h))).mono ?_
  rintro e w2 ⟨r, hr, rfl, hx2⟩
  have HX2 := Lib.hid (HX1.out.trans hx2)
  cases r with
  | false =>
    clear hr hx2
    go_wp2_with fail
    go_ret
    exact ⟨rfl, HX2.out⟩
  | true =>
    have hsm := hr rfl
    have hl20 := hsm.len
    have HP : Hid (∀ e ∈ l, e.ps.length ≤ 1000) := Lib.hid fun e he => by have := (hsm.each e he).1; omega
    have HD : Hid (∀ e ∈ l, e.av.dep ≤ 1000000) := Lib.hid hsm.lens.2.2
    clear hr hx2 hsm
    go_wp2_with fail
    refine (canE_ok (fun b => b < W.heap.size) l _ w2 (fun b hb => Nat.lt_of_lt_of_le hb HX2.out.size) (HR.out.alike (Alike.of_ext HX2.out fun _ h => h)) (by omega) (fun e he => by have := HP.out e he; omega) HD.out).mono ?_
    rintro e w3 ⟨va, rfl, hva, hx3⟩
    have hlen := canonE_len l
    have HVa := Lib.hid (ents_rows hva (by rw [LIM_eq]; omega))
    have HX3 := Lib.hid (HX2.out.trans hx3)
    clear hva hx3 hlen
    go_wp2_with fail
    refine (canon5_ok (fun b => b < W.heap.size) l _ w3 (fun b hb => Nat.lt_of_lt_of_le hb HX3.out.size) (HR.out.alike (Alike.of_ext HX3.out fun _ h => h)) (by omega) HP.out HD.out).mono ?_
    rintro e w4 ⟨vb, rfl, hvb, hx4⟩
    have HVb := Lib.hid hvb
    have HX4 := Lib.hid (HX3.out.trans hx4)
    have HVa4 := Lib.hid ((HVa.out.alike (Alike.of_ext hx4 fun _ h => h)).mono fun b hb => Nat.lt_of_lt_of_le hb hx4.size)
    clear hvb hx4
    go_wp2_with fail
    refine (wholeE_ok (fun b => b < w4.heap.size) (canonE l).1 _ _ w4 (fun _ h => h) HVa4.out HVb.out).mono ?_
    rintro e w5 ⟨rfl, hx5⟩
    have HX5 := Lib.hid hx5
    clear hx5
    go_wp2_with fail
    go_ret
    exact ⟨rfl, HX4.out.trans HX5.out⟩
end Go.Proofs.YtjllolagcdjlnaaGreat
