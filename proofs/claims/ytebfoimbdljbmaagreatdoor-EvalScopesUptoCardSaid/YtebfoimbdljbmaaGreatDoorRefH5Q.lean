/-
  Whether a scope takes an entity, as the document has it: OneOf, and all kinds together. The conditions: what is handed in lies in memory as it should; the entities are as they must be.
-/
import Derived.Test.YtebfoimbdljbmaaGreatDoorRefHQ
import Derived.Test.YtebfoimbdljbmaaGreatDoorR14aQ
namespace Go.Proofs.YtebfoimbdljbmaaGreatDoor
open Go.RowKit
set_option linter.unusedVariables false in
set_option maxRecDepth 100000 in
set_option maxHeartbeats 4000000 in
theorem ref_holds_5t (S : Nat → Prop) (c : List Ent) (cv : Value) (ty d1 d2 u1 u2 : ByteArray) (l : List Uid) (lA : Option Addr) (lc : Nat) (w : World) (hS : ∀ b, S b → b < w.heap.size) (hu : FitU (u1, u2)) (hd : FitU (d1, d2)) (hst : entR.RowsAt S w c cv) (ht : Tidy c) (hl : uidR.RowsAt (fun b => b < w.heap.size) w l (.slice lA l.length lc)) :
    Calls Tryz.prog 21 #[.agg ([.int .i64 5, .string ty, .string d1, .string d2, .bool true, .slice lA l.length lc] : List Value).toArray, .agg #[.string u1, .string u2], cv] w (HoldsAns ((Scp.mk 5 ty (d1, d2) true l).holds c (u1, u2)) w) := by
  obtain ⟨res, hres⟩ : ∃ res, (Scp.mk 5 ty (d1, d2) true l).holds c (u1, u2) = res := ⟨_, rfl⟩
  rw [hres]
  obtain ⟨p0, p1, ps, px⟩ := heapA2 w (.cells #[.int .i64 5, .string ty, .string d1, .string d2, .bool true, .slice lA l.length lc] 52) (.cells #[.string u1, .string u2] 23)
  have HP0 := Lib.hid p0
  have HU0 := Lib.hid p1
  have HX0 := Lib.hid px
  clear p0 p1 ps px
  have HDc := Lib.hid (cells_mid (pre := [.int .i64 5, .string ty]) (cs := [.string d1, .string d2]) (r := [.bool true, .slice lA l.length lc]) HP0.out)
  have HC := Lib.hid (in6_ok S c cv (u1, u2) (d1, d2) ((w.alloc (.cells #[.int .i64 5, .string ty, .string d1, .string d2, .bool true, .slice lA l.length lc] 52)).alloc (.cells #[.string u1, .string u2] 23)) (fun b hb => Nat.lt_of_lt_of_le (hS b hb) HX0.out.size) (hst.alike (Alike.of_ext HX0.out hS)) ht hu hd)
  have HI := Lib.hid (fun (x : Uid) (hx : FitU x) (X : World) (k : Ext w X) => in6_ok S c cv (u1, u2) x X (fun b hb => Nat.lt_of_lt_of_le (hS b hb) k.size) (hst.alike (Alike.of_ext k hS)) ht hu hx)
  have HRes := Lib.hid (show res = (l.any fun x => inB c (u1, u2) x, 0) by rw [← hres]; unfold Scp.holds; simp)
  have HL := Lib.hid hl
  obtain ⟨_, _, eq0, ⟨hl0, hl1, hl2⟩, _⟩ := hl
  injection eq0 with eq1 eq2 eq3
  subst eq1 eq3
  rw [LIM_eq] at hl0
  rw [maxLen_eq] at hl2
  clear hres hS hu hd hst ht eq2
  go_enter Tryz.func21, Tryz.ntmps21
  go_wp2_with (first | (with_reducible refine at_load ?_; refine wpList_load_cells rfl 23 _ rfl (w.heap.size + 1) 0 rfl Tryz.agg23 Tryz.size23 (cs := [.string u1, .string u2]) rfl (cells_of_row HU0.out) ?_) | (with_reducible refine at_load ?_; refine wpList_load_cells rfl 23 _ rfl w.heap.size 2 rfl Tryz.agg23 Tryz.size23 (cs := [.string d1, .string d2]) rfl HDc.out ?_))
  refine HC.out.mono ?_
  rintro e1 w1 ⟨rfl, hx1⟩
  have HX1 := Lib.hid (HX0.out.trans hx1)
  have HP1 := Lib.hid ((hx1.block _ (Blk_lt HP0.out)).trans HP0.out)
  have HU1 := Lib.hid ((hx1.block _ (Blk_lt HU0.out)).trans HU0.out)
  have c0 : w1.cell? ⟨w.heap.size, 0, none⟩ = some (.int .i64 5) := cell_of_row _ _ 0 _ _ _ HP1.out
  clear hx1 HX0 HP0 HU0 HDc HC
  go_wp2_with fail
  go_loopw [9, 10] (fun i' _ wr => ∃ k : Nat, k ≤ l.length ∧ i' = .int .i64 k ∧ Hid (Ext w1 wr) ∧ Hid (((l.take k).any fun x => inB c (u1, u2) x) = false)) (fun i' _ _ => l.length - (intOf i').toNat)
  case atStart => exact ⟨0, Nat.zero_le _, rfl, Lib.hid (Ext.refl w1), Lib.hid (by simp)⟩
  case round =>
    clear c0
    obtain ⟨k, hk, rfl, HX, HN⟩ := hrel
    have HPr := Lib.hid ((HX.out.block _ (Blk_lt HP1.out)).trans HP1.out)
    have HUr := Lib.hid ((HX.out.block _ (Blk_lt HU1.out)).trans HU1.out)
    have HXr := Lib.hid (HX1.out.trans HX.out)
    have c5 : wr.cell? ⟨w.heap.size, 5, none⟩ = some (.slice lA l.length lc) := cell_of_row _ _ 5 _ _ _ HPr.out
    by_cases hlt : k < l.length
    · obtain ⟨q, hq⟩ : ∃ q, l[k]? = some q := ⟨_, List.getElem?_eq_getElem hlt⟩
      obtain ⟨_, _, ev, _, hr5⟩ := HL.out
      injection ev with ev1 ev2 ev3
      clear ev2
      subst ev1 ev3
      obtain ⟨b5, o5, eb, hb5, hrw⟩ := hr5 (by omega)
      clear hr5
      cases eb
      obtain ⟨cs5, hc5, rfl, hfq⟩ := hrw k q hq
      have g0 := cell_regrown (show wr.cell? ⟨b5, o5 + k * 2, none⟩ = some (.string q.1) from HXr.out.cell (hc5 0 _ rfl))
      have g1 := cell_regrown (show wr.cell? ⟨b5, o5 + k * 2 + 1, none⟩ = some (.string q.2) from HXr.out.cell (hc5 1 _ rfl))
      have k0 := cell_regrown (show wr.cell? ⟨w.heap.size + 1, 0, none⟩ = some (.string u1) from cell_of_row _ _ 0 _ _ _ HUr.out)
      have k1 := cell_regrown (show wr.cell? ⟨w.heap.size + 1, 1, none⟩ = some (.string u2) from cell_of_row _ _ 1 _ _ _ HUr.out)
      have k5 := cell_regrown (show wr.cell? ⟨w.heap.size, 5, none⟩ = some (.slice (some ⟨b5, o5, none⟩) l.length lc) from cell_of_row _ _ 5 _ _ _ HPr.out)
      obtain ⟨tb, htb⟩ : ∃ tb, inB c (u1, u2) q = tb := ⟨_, rfl⟩
      have KI : Hid (∀ X, Ext wr X → Calls Tryz.prog 47 #[cv, .agg #[.string u1, .string u2], .agg #[.string q.1, .string q.2]] X fun e w' => e = .returned (.bool tb) ∧ Ext X w') := Lib.hid fun X hX => by rw [← htb]; exact HI.out q hfq X (HXr.out.trans hX)
      have HTb := Lib.hid htb
      have HQ := Lib.hid hq
      have Hlt := Lib.hid hlt
      clear htb hq hc5 hrw hfq hb5
      cases tb
      all_goals
        go_wp2_with fail
        refine region_later (by kernel_rfl) (by kernel_rfl) ?_
        iterate 7 (go_big_quiet_step (fail))
        go_big_quiet_step ((go_at_call 47; exact later_call KI.out _ _))
        iterate 1 (go_big_quiet_step (fail))
        refine wpQuiet_nil ?_
        intro w8 hw8
        have HX8 := Lib.hid (HX.out.trans hw8)
        clear hw8 k0 k1 k5 g0 g1 c5
        go_wp2_with fail
      · go_roundw
        case rel => exact ⟨k + 1, by have := Hlt.out; omega, by go_num, HX8, Lib.hid (by rw [any_take_succ HQ.out, HN.out, HTb.out]; rfl)⟩
        case measure => have := Hlt.out; simp [intOf]; omega
      · have hh : res = (true, 0) := by
          rw [HRes.out]
          have : (l.any fun x => inB c (u1, u2) x) = true := List.any_eq_true.2 ⟨q, List.mem_of_getElem? HQ.out, HTb.out⟩
          rw [this]
        subst hh
        go_ret2
        exact ⟨rfl, HX1.out.trans HX8.out⟩
    · have hh : res = (false, 0) := by
        have hke : k = l.length := by omega
        have hn := HN.out
        rw [hke, List.take_length] at hn
        rw [HRes.out, hn]
      subst hh
      go_wp2_with fail
      go_ret2
      exact ⟨rfl, HXr.out⟩
set_option linter.unusedVariables false in
set_option maxRecDepth 100000 in
set_option maxHeartbeats 4000000 in
theorem ref_holds_5f (S : Nat → Prop) (c : List Ent) (cv : Value) (ty d1 d2 u1 u2 : ByteArray) (l : List Uid) (lA : Option Addr) (lc : Nat) (w : World) (hS : ∀ b, S b → b < w.heap.size) (hu : FitU (u1, u2)) (hd : FitU (d1, d2)) (hst : entR.RowsAt S w c cv) (ht : Tidy c) (hl : uidR.RowsAt (fun b => b < w.heap.size) w l (.slice lA l.length lc)) :
    Calls Tryz.prog 21 #[.agg ([.int .i64 5, .string ty, .string d1, .string d2, .bool false, .slice lA l.length lc] : List Value).toArray, .agg #[.string u1, .string u2], cv] w (HoldsAns ((Scp.mk 5 ty (d1, d2) false l).holds c (u1, u2)) w) := by
  obtain ⟨res, hres⟩ : ∃ res, (Scp.mk 5 ty (d1, d2) false l).holds c (u1, u2) = res := ⟨_, rfl⟩
  rw [hres]
  obtain ⟨p0, p1, ps, px⟩ := heapA2 w (.cells #[.int .i64 5, .string ty, .string d1, .string d2, .bool false, .slice lA l.length lc] 52) (.cells #[.string u1, .string u2] 23)
  have HP0 := Lib.hid p0
  have HU0 := Lib.hid p1
  have HX0 := Lib.hid px
  clear p0 p1 ps px
  have HDc := Lib.hid (cells_mid (pre := [.int .i64 5, .string ty]) (cs := [.string d1, .string d2]) (r := [.bool false, .slice lA l.length lc]) HP0.out)
  have HC := Lib.hid (in6_ok S c cv (u1, u2) (d1, d2) ((w.alloc (.cells #[.int .i64 5, .string ty, .string d1, .string d2, .bool false, .slice lA l.length lc] 52)).alloc (.cells #[.string u1, .string u2] 23)) (fun b hb => Nat.lt_of_lt_of_le (hS b hb) HX0.out.size) (hst.alike (Alike.of_ext HX0.out hS)) ht hu hd)
  have HI := Lib.hid (fun (x : Uid) (hx : FitU x) (X : World) (k : Ext w X) => in6_ok S c cv (u1, u2) x X (fun b hb => Nat.lt_of_lt_of_le (hS b hb) k.size) (hst.alike (Alike.of_ext k hS)) ht hu hx)
  have HRes := Lib.hid (show res = (l.any fun x => inB c (u1, u2) x, 0) by rw [← hres]; unfold Scp.holds; simp)
  have HL := Lib.hid hl
  obtain ⟨_, _, eq0, ⟨hl0, hl1, hl2⟩, _⟩ := hl
  injection eq0 with eq1 eq2 eq3
  subst eq1 eq3
  rw [LIM_eq] at hl0
  rw [maxLen_eq] at hl2
  clear hres hS hu hd hst ht eq2
  go_enter Tryz.func21, Tryz.ntmps21
  go_wp2_with (first | (with_reducible refine at_load ?_; refine wpList_load_cells rfl 23 _ rfl (w.heap.size + 1) 0 rfl Tryz.agg23 Tryz.size23 (cs := [.string u1, .string u2]) rfl (cells_of_row HU0.out) ?_) | (with_reducible refine at_load ?_; refine wpList_load_cells rfl 23 _ rfl w.heap.size 2 rfl Tryz.agg23 Tryz.size23 (cs := [.string d1, .string d2]) rfl HDc.out ?_))
  refine HC.out.mono ?_
  rintro e1 w1 ⟨rfl, hx1⟩
  have HX1 := Lib.hid (HX0.out.trans hx1)
  have HP1 := Lib.hid ((hx1.block _ (Blk_lt HP0.out)).trans HP0.out)
  have HU1 := Lib.hid ((hx1.block _ (Blk_lt HU0.out)).trans HU0.out)
  have c0 : w1.cell? ⟨w.heap.size, 0, none⟩ = some (.int .i64 5) := cell_of_row _ _ 0 _ _ _ HP1.out
  clear hx1 HX0 HP0 HU0 HDc HC
  go_wp2_with fail
  go_loopw [9, 10] (fun i' _ wr => ∃ k : Nat, k ≤ l.length ∧ i' = .int .i64 k ∧ Hid (Ext w1 wr) ∧ Hid (((l.take k).any fun x => inB c (u1, u2) x) = false)) (fun i' _ _ => l.length - (intOf i').toNat)
  case atStart => exact ⟨0, Nat.zero_le _, rfl, Lib.hid (Ext.refl w1), Lib.hid (by simp)⟩
  case round =>
    clear c0
    obtain ⟨k, hk, rfl, HX, HN⟩ := hrel
    have HPr := Lib.hid ((HX.out.block _ (Blk_lt HP1.out)).trans HP1.out)
    have HUr := Lib.hid ((HX.out.block _ (Blk_lt HU1.out)).trans HU1.out)
    have HXr := Lib.hid (HX1.out.trans HX.out)
    have c5 : wr.cell? ⟨w.heap.size, 5, none⟩ = some (.slice lA l.length lc) := cell_of_row _ _ 5 _ _ _ HPr.out
    by_cases hlt : k < l.length
    · obtain ⟨q, hq⟩ : ∃ q, l[k]? = some q := ⟨_, List.getElem?_eq_getElem hlt⟩
      obtain ⟨_, _, ev, _, hr5⟩ := HL.out
      injection ev with ev1 ev2 ev3
      clear ev2
      subst ev1 ev3
      obtain ⟨b5, o5, eb, hb5, hrw⟩ := hr5 (by omega)
      clear hr5
      cases eb
      obtain ⟨cs5, hc5, rfl, hfq⟩ := hrw k q hq
      have g0 := cell_regrown (show wr.cell? ⟨b5, o5 + k * 2, none⟩ = some (.string q.1) from HXr.out.cell (hc5 0 _ rfl))
      have g1 := cell_regrown (show wr.cell? ⟨b5, o5 + k * 2 + 1, none⟩ = some (.string q.2) from HXr.out.cell (hc5 1 _ rfl))
      have k0 := cell_regrown (show wr.cell? ⟨w.heap.size + 1, 0, none⟩ = some (.string u1) from cell_of_row _ _ 0 _ _ _ HUr.out)
      have k1 := cell_regrown (show wr.cell? ⟨w.heap.size + 1, 1, none⟩ = some (.string u2) from cell_of_row _ _ 1 _ _ _ HUr.out)
      have k5 := cell_regrown (show wr.cell? ⟨w.heap.size, 5, none⟩ = some (.slice (some ⟨b5, o5, none⟩) l.length lc) from cell_of_row _ _ 5 _ _ _ HPr.out)
      obtain ⟨tb, htb⟩ : ∃ tb, inB c (u1, u2) q = tb := ⟨_, rfl⟩
      have KI : Hid (∀ X, Ext wr X → Calls Tryz.prog 47 #[cv, .agg #[.string u1, .string u2], .agg #[.string q.1, .string q.2]] X fun e w' => e = .returned (.bool tb) ∧ Ext X w') := Lib.hid fun X hX => by rw [← htb]; exact HI.out q hfq X (HXr.out.trans hX)
      have HTb := Lib.hid htb
      have HQ := Lib.hid hq
      have Hlt := Lib.hid hlt
      clear htb hq hc5 hrw hfq hb5
      cases tb
      all_goals
        go_wp2_with fail
        refine region_later (by kernel_rfl) (by kernel_rfl) ?_
        iterate 7 (go_big_quiet_step (fail))
        go_big_quiet_step ((go_at_call 47; exact later_call KI.out _ _))
        iterate 1 (go_big_quiet_step (fail))
        refine wpQuiet_nil ?_
        intro w8 hw8
        have HX8 := Lib.hid (HX.out.trans hw8)
        clear hw8 k0 k1 k5 g0 g1 c5
        go_wp2_with fail
      · go_roundw
        case rel => exact ⟨k + 1, by have := Hlt.out; omega, by go_num, HX8, Lib.hid (by rw [any_take_succ HQ.out, HN.out, HTb.out]; rfl)⟩
        case measure => have := Hlt.out; simp [intOf]; omega
      · have hh : res = (true, 0) := by
          rw [HRes.out]
          have : (l.any fun x => inB c (u1, u2) x) = true := List.any_eq_true.2 ⟨q, List.mem_of_getElem? HQ.out, HTb.out⟩
          rw [this]
        subst hh
        go_ret2
        exact ⟨rfl, HX1.out.trans HX8.out⟩
    · have hh : res = (false, 0) := by
        have hke : k = l.length := by omega
        have hn := HN.out
        rw [hke, List.take_length] at hn
        rw [HRes.out, hn]
      subst hh
      go_wp2_with fail
      go_ret2
      exact ⟨rfl, HXr.out⟩
/-- whether a scope takes an entity, as the document has it -/
theorem refHolds_ok (S : Nat → Prop) (c : List Ent) (cv : Value) (p : Scp) (u : Uid) (w : World) (pc : List Value) (hS : ∀ b, S b → b < w.heap.size) (hu : FitU u) (hp : scpR.At (fun b => b < w.heap.size) w p pc) (hst : entR.RowsAt S w c cv) (ht : Tidy c) :
    Calls Tryz.prog 21 #[.agg pc.toArray, valU u, cv] w (HoldsAns (p.holds c u) w) := by
  obtain ⟨pk, ty, ⟨d1, d2⟩, slot, l⟩ := p
  obtain ⟨v, rfl, _, _, hd, hl⟩ := hp
  obtain ⟨lA, lc, rfl, hl1⟩ := id hl
  obtain ⟨u1, u2⟩ := u
  have hk : pk = 0 ∨ pk = 1 ∨ pk = 2 ∨ pk = 3 ∨ pk = 4 ∨ pk = 5 ∨ pk < 0 ∨ 5 < pk := by omega
  rcases hk with rfl | rfl | rfl | rfl | rfl | rfl | hk | hk <;> cases slot
  · exact ref_holds_0f S c cv ty d1 d2 u1 u2 l lA lc w hS hu hd hst ht hl
  · exact ref_holds_0t S c cv ty d1 d2 u1 u2 l lA lc w hS hu hd hst ht hl
  · exact ref_holds_1f S c cv ty d1 d2 u1 u2 l lA lc w hS hu hd hst ht hl
  · exact ref_holds_1t S c cv ty d1 d2 u1 u2 l lA lc w hS hu hd hst ht hl
  · exact ref_holds_2f S c cv ty d1 d2 u1 u2 l lA lc w hS hu hd hst ht hl
  · exact ref_holds_2t S c cv ty d1 d2 u1 u2 l lA lc w hS hu hd hst ht hl
  · exact ref_holds_3f S c cv ty d1 d2 u1 u2 l lA lc w hS hu hd hst ht hl
  · exact ref_holds_3t S c cv ty d1 d2 u1 u2 l lA lc w hS hu hd hst ht hl
  · exact ref_holds_4f S c cv ty d1 d2 u1 u2 l lA lc w hS hu hd hst ht hl
  · exact ref_holds_4t S c cv ty d1 d2 u1 u2 l lA lc w hS hu hd hst ht hl
  · exact ref_holds_5f S c cv ty d1 d2 u1 u2 l lA lc w hS hu hd hst ht hl
  · exact ref_holds_5t S c cv ty d1 d2 u1 u2 l lA lc w hS hu hd hst ht hl
  · exact ref_holds_lof pk hk S c cv ty d1 d2 u1 u2 l lA lc w hS hu hd hst ht hl
  · exact ref_holds_lot pk hk S c cv ty d1 d2 u1 u2 l lA lc w hS hu hd hst ht hl
  · exact ref_holds_hif pk hk S c cv ty d1 d2 u1 u2 l lA lc w hS hu hd hst ht hl
  · exact ref_holds_hit pk hk S c cv ty d1 d2 u1 u2 l lA lc w hS hu hd hst ht hl
end Go.Proofs.YtebfoimbdljbmaaGreatDoor
