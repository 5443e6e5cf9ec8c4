/-
  Whether a value is of a type: the program's Value, by recursion. The conditions: the value is as it must be, both lie in memory as they should.
-/
import Derived.Test.YtjllolagcdjlnaaGreatConVM
namespace Go.Proofs.YtjllolagcdjlnaaGreat
open Go.RowKit

theorem takesOne_not {elem : List Ty} {x : Val} (h : elem.length ≠ 1) : Ty.takesOne elem x = false := by
  match elem with
  | [] => rfl
  | [_] => simp at h
  | _ :: _ :: _ => rfl

set_option maxRecDepth 100000 in
set_option maxHeartbeats 1600000 in
theorem wrong1_ok (x : Val) (elem : List Ty) (S : Nat → Prop) (w : World) (cx : List Value) (g : Nat) (u0 u1 u3 ve : Value) (hS : ∀ b, S b → b < w.heap.size) (hx : Val.At S w x cx) (he : tyR.RowsAt S w elem ve)
    (hg : w.heap[g]? = some (.cells #[u0, u1, ve, u3] 57 (0, 0))) (ih : TakesOf [x]) :
    Calls Tryz.prog 77 (#[.agg cx.toArray] ++ #[.pointer (some ⟨g, 0, none⟩)]) w fun e w' => e = .returned (.bool (!(Ty.takesOne elem x))) ∧ Ext w w' := by
  obtain ⟨xk, xb, xn, xt, xut, xui, xA, xl, xc, xB, xm, xd, rfl⟩ := hx.shape
  obtain ⟨A, cap, rfl, ⟨h0, h1, h2⟩, hrow⟩ := he
  rw [LIM_eq] at h0
  rw [maxLen_eq] at h2
  obtain ⟨W, hW⟩ : ∃ W, W = w.alloc (.cells #[.int .i64 xk, .bool xb, .int .i64 xn, .string xt, .string xut, .string xui, .slice xA xl xc, .slice xB xm xd] 35) := ⟨_, rfl⟩
  have hxW : Ext w W := by rw [hW]; exact (Ext.refl w).alloc _
  have hnew : W.heap[w.heap.size]? = some (.cells #[.int .i64 xk, .bool xb, .int .i64 xn, .string xt, .string xut, .string xui, .slice xA xl xc, .slice xB xm xd] 35 (0, 0)) := by rw [hW]; exact heap_alloc_new _ _
  have gt := cell_regrown (show W.cell? ⟨g, 2, none⟩ = some (.slice A elem.length cap) from cell_of_row _ _ 2 _ _ _ ((hxW.block _ (Blk_lt hg)).trans hg))
  have i0 := cell_regrown (show W.cell? ⟨w.heap.size, 0, none⟩ = some (.int .i64 xk) from cell_of_row _ _ 0 _ _ _ hnew)
  have i1 := cell_regrown (show W.cell? ⟨w.heap.size, 1, none⟩ = some (.bool xb) from cell_of_row _ _ 1 _ _ _ hnew)
  have i2 := cell_regrown (show W.cell? ⟨w.heap.size, 2, none⟩ = some (.int .i64 xn) from cell_of_row _ _ 2 _ _ _ hnew)
  have i3 := cell_regrown (show W.cell? ⟨w.heap.size, 3, none⟩ = some (.string xt) from cell_of_row _ _ 3 _ _ _ hnew)
  have i4 := cell_regrown (show W.cell? ⟨w.heap.size, 4, none⟩ = some (.string xut) from cell_of_row _ _ 4 _ _ _ hnew)
  have i5 := cell_regrown (show W.cell? ⟨w.heap.size, 5, none⟩ = some (.string xui) from cell_of_row _ _ 5 _ _ _ hnew)
  have i6 := cell_regrown (show W.cell? ⟨w.heap.size, 6, none⟩ = some (.slice xA xl xc) from cell_of_row _ _ 6 _ _ _ hnew)
  have i7 := cell_regrown (show W.cell? ⟨w.heap.size, 7, none⟩ = some (.slice xB xm xd) from cell_of_row _ _ 7 _ _ _ hnew)
  by_cases hl : elem.length = 1
  · match elem, hl with
    | [t], _ =>
      obtain ⟨b, o, rfl, hSb, hrow⟩ := hrow (by simp)
      obtain ⟨ct, hct, hta⟩ := hrow 0 t rfl
      obtain ⟨tA, ta, tB, tb, rfl, _⟩ := Ty.At.parts hta
      have hct : CellsAt w b o [.int .i64 t.kind, .string t.name, .slice tA t.elem.length ta, .slice tB t.attrs.length tb] := by simpa [tyR] using hct
      have hctW := hct.alike hSb (Alike.of_ext hxW hS)
      obtain ⟨rb, hrb⟩ : ∃ rb, t.takes x = rb := ⟨_, rfl⟩
      have hres : Ty.takesOne [t] x = rb := by rw [← hrb]; unfold Ty.takesOne; rfl
      rw [hres]
      have KV : Hid (∀ X, Ext W X → Calls Tryz.prog 36 #[.agg #[.int .i64 xk, .bool xb, .int .i64 xn, .string xt, .string xut, .string xui, .slice xA xl xc, .slice xB xm xd], .agg #[.int .i64 t.kind, .string t.name, .slice tA t.elem.length ta, .slice tB t.attrs.length tb]] X fun e w' => e = .returned (.bool rb) ∧ Ext X w') := Lib.hid fun X hX => by
        have hal := Alike.of_ext (hxW.trans hX) hS
        have h := ih x (by simp) t S X _ _ (fun b hb => Nat.lt_of_lt_of_le (hS b hb) (hxW.trans hX).size) (hx.alike hal) (Ty.At.alike hal _ _ hta)
        rw [hrb] at h
        exact h
      have t0 := cell_regrown (show W.cell? ⟨b, o, none⟩ = some (.int .i64 t.kind) from hctW 0 _ rfl)
      have t1 := cell_regrown (show W.cell? ⟨b, o + 1, none⟩ = some (.string t.name) from hctW 1 _ rfl)
      have t2 := cell_regrown (show W.cell? ⟨b, o + 2, none⟩ = some (.slice tA t.elem.length ta) from hctW 2 _ rfl)
      have t3 := cell_regrown (show W.cell? ⟨b, o + 3, none⟩ = some (.slice tB t.attrs.length tb) from hctW 3 _ rfl)
      have HXW := Lib.hid hxW
      clear hrow hSb hct hta hctW hrb hres hxW hnew hg hx hS ih
      subst hW
      show Calls Tryz.prog 77 #[.agg #[.int .i64 xk, .bool xb, .int .i64 xn, .string xt, .string xut, .string xui, .slice xA xl xc, .slice xB xm xd], .pointer (some ⟨g, 0, none⟩)] w _
      go_enter Tryz.func77, Tryz.ntmps77
      go_wp2_with fail
      refine region_later (by kernel_rfl) (by kernel_rfl) ?_
      iterate 10 (go_big_quiet_step (fail))
      go_big_quiet_step ((go_at_call 36; exact later_call KV.out _ _))
      iterate 3 (go_big_quiet_step (fail))
      refine wpQuiet_nil ?_
      intro w4 hw4
      have HX4 := Lib.hid (HXW.out.trans hw4)
      clear hw4 gt i0 i1 i2 i3 i4 i5 i6 i7 t0 t1 t2 t3
      go_wp2_with fail
      go_ret
      exact ⟨rfl, HX4.out⟩
  · rw [takesOne_not hl]
    have e1 : ((elem.length : Int) != 1) = true := by simp; omega
    have HXW := Lib.hid hxW
    clear hrow hxW hnew hg hx hS ih hl
    subst hW
    show Calls Tryz.prog 77 #[.agg #[.int .i64 xk, .bool xb, .int .i64 xn, .string xt, .string xut, .string xui, .slice xA xl xc, .slice xB xm xd], .pointer (some ⟨g, 0, none⟩)] w _
    go_enter Tryz.func77, Tryz.ntmps77
    go_wp2_with fail
    refine region_later (by kernel_rfl) (by kernel_rfl) ?_
    iterate 14 (go_big_quiet_step (fail))
    refine wpQuiet_nil ?_
    intro w4 hw4
    have HX4 := Lib.hid (HXW.out.trans hw4)
    clear hw4 gt i0 i1 i2 i3 i4 i5 i6 i7
    go_wp2_with fail
    go_ret
    exact ⟨rfl, HX4.out⟩

theorem not_any {α : Type} (l : List α) (p : α → Bool) : (!(l.any fun x => !p x)) = l.all p := by
  rw [Bool.eq_iff_iff, Bool.not_eq_true', List.any_eq_false, List.all_eq_true]
  simp

set_option maxRecDepth 100000 in
set_option maxHeartbeats 8000000 in
theorem takes_ok (n : Nat) : ∀ (v : Val), SizeOf.sizeOf v ≤ n → v.Is → TakesOf [v] := by
  induction n with
  | zero => intro v; cases v; simp
  | succ n ihn =>
    intro v hn his v' hv' t S w cv ct hS hv ht
    obtain rfl : v' = v := by simpa using hv'
    obtain ⟨vk, vb, vi, vt, vut, vui, items, names⟩ := v'
    obtain ⟨tk, tn, elem, attrs⟩ := t
    obtain ⟨k1, b1, n1, t1, ut1, ui1, A1, l1, c1, A2, l2, c2, rfl⟩ := hv.shape
    have hvs := hv.vals
    obtain ⟨rfl, rfl, rfl, rfl, rfl, rfl⟩ : k1 = vk ∧ b1 = vb ∧ n1 = vi ∧ t1 = vt ∧ ut1 = vut ∧ ui1 = vui := by
      unfold Val.At at hv; obtain ⟨_, _, _, e, _⟩ := hv; simp at e; exact ⟨e.1, e.2.1, e.2.2.1, e.2.2.2.1, e.2.2.2.2.1, e.2.2.2.2.2.1⟩
    obtain ⟨tA, ta, tB, tb, hct, _, hte, hta⟩ := Ty.At.parts ht
    obtain rfl : ct = [.int .i64 tk, .string tn, .slice tA elem.length ta, .slice tB attrs.length tb] := hct
    have hte : tyR.RowsAt S w elem (.slice tA elem.length ta) := hte
    have hta : atrR.RowsAt S w attrs (.slice tB attrs.length tb) := hta
    have ih : TakesOf items := fun x hx => by
      have hxi : x.Is := by
        unfold Val.Is at his
        rcases his with h | h | h | h | h | h
        · rw [h.2.2.2.2.2.1] at hx; cases hx
        · rw [h.2.2.2.2.2.1] at hx; cases hx
        · rw [h.2.2.2.2.2.1] at hx; cases hx
        · rw [h.2.2.2.2.1] at hx; cases hx
        · exact (Val.are_iff _).1 h.2.2.2.2.2.2.2.2.2 x hx
        · exact (Val.are_iff _).1 h.2.2.2.2.2.2.2.2.2 x hx
      exact ihn x (by have := List.sizeOf_lt_of_mem hx; simp at hn; omega) hxi x (by simp)
    have hrec : k1 = 6 → names.length ≤ items.length := fun hk => by
      unfold Val.Is at his
      rcases his with h | h | h | h | h | h
      · omega
      · omega
      · omega
      · omega
      · omega
      · omega
    have HT : Hid (Ty.takes (.mk tk tn elem attrs) (.mk k1 b1 n1 t1 ut1 ui1 items names) = if tk = 1 then decide (k1 = 1) && b1 else if tk = 2 then decide (k1 = 1) && !b1 else if tk = 3 then decide (k1 = 1) else if tk = 4 then decide (k1 = 2) else if tk = 5 then decide (k1 = 3)
        else if tk = 6 then decide (k1 = 4) && decide (ut1 = tn) else if tk = 7 then decide (k1 = 5) && items.all (fun x => Ty.takesOne elem x) else if tk = 8 then decide (k1 = 6) && recB attrs items names else false) := Lib.hid (by rw [Ty.takes]; rfl)
    generalize Ty.takes (.mk tk tn elem attrs) (.mk k1 b1 n1 t1 ut1 ui1 items names) = res at *
    obtain ⟨_, _, e, ⟨hi0, hi1, hi2⟩, _⟩ := id hvs
    injection e with e1 e2 e3
    subst e1 e2 e3
    obtain ⟨_, _, e, ⟨ha0, ha1, ha2⟩, _⟩ := id hta
    injection e with e1 e2 e3
    subst e1 e3
    obtain ⟨_, _, e, ⟨hb0, hb1, hb2⟩, _⟩ := id hte
    injection e with e1 e2 e3
    subst e1 e3
    rw [LIM_eq] at hi0 ha0 hb0
    rw [maxLen_eq] at hi2 ha2 hb2
    have HS := Lib.hid hS
    have HV := Lib.hid hv
    have HVs := Lib.hid hvs
    have HTe := Lib.hid hte
    have HTa := Lib.hid hta
    have IH := Lib.hid ih
    have HRec := Lib.hid hrec
    have hx0 := fun o1 o2 => ((Ext.refl w).alloc o1).alloc o2
    have HX0 := Lib.hid hx0
    clear hn his ihn hS hv ht hvs hte hta ih hrec hv' hx0
    by_cases h3 : tk = 3
    · subst h3
      by_cases hk : k1 = 1
      · subst hk
        go_enter Tryz.func36, Tryz.ntmps36
        go_wp2_with fail
        go_ret
        exact ⟨ret_bool (by rw [HT.out]; simp), ((Ext.refl w).alloc _).alloc _⟩
      · have ek : (k1 == 1) = false := by simpa using hk
        have HK := Lib.hid hk
        clear hk
        go_enter Tryz.func36, Tryz.ntmps36
        go_wp2_with fail
        go_ret
        exact ⟨ret_bool (by rw [HT.out]; simp [HK.out]), ((Ext.refl w).alloc _).alloc _⟩
    have e3 : (tk == 3) = false := by simpa using h3
    by_cases h4 : tk = 4
    · subst h4
      by_cases hk : k1 = 2
      · subst hk
        go_enter Tryz.func36, Tryz.ntmps36
        go_wp2_with fail
        go_ret
        exact ⟨ret_bool (by rw [HT.out]; simp), ((Ext.refl w).alloc _).alloc _⟩
      · have ek : (k1 == 2) = false := by simpa using hk
        have HK := Lib.hid hk
        clear hk
        go_enter Tryz.func36, Tryz.ntmps36
        go_wp2_with fail
        go_ret
        exact ⟨ret_bool (by rw [HT.out]; simp [HK.out]), ((Ext.refl w).alloc _).alloc _⟩
    have e4 : (tk == 4) = false := by simpa using h4
    by_cases h5 : tk = 5
    · subst h5
      by_cases hk : k1 = 3
      · subst hk
        go_enter Tryz.func36, Tryz.ntmps36
        go_wp2_with fail
        go_ret
        exact ⟨ret_bool (by rw [HT.out]; simp), ((Ext.refl w).alloc _).alloc _⟩
      · have ek : (k1 == 3) = false := by simpa using hk
        have HK := Lib.hid hk
        clear hk
        go_enter Tryz.func36, Tryz.ntmps36
        go_wp2_with fail
        go_ret
        exact ⟨ret_bool (by rw [HT.out]; simp [HK.out]), ((Ext.refl w).alloc _).alloc _⟩
    have e5 : (tk == 5) = false := by simpa using h5
    by_cases h1 : tk = 1
    · subst h1
      by_cases hk : k1 = 1
      · subst hk
        go_enter Tryz.func36, Tryz.ntmps36
        go_wp2_with fail
        go_ret
        exact ⟨ret_bool (by rw [HT.out]; simp), ((Ext.refl w).alloc _).alloc _⟩
      · have ek : (k1 == 1) = false := by simpa using hk
        have HK := Lib.hid hk
        clear hk
        go_enter Tryz.func36, Tryz.ntmps36
        go_wp2_with fail
        go_ret
        exact ⟨ret_bool (by rw [HT.out]; simp [HK.out]), ((Ext.refl w).alloc _).alloc _⟩
    have e1 : (tk == 1) = false := by simpa using h1
    by_cases h2 : tk = 2
    · subst h2
      by_cases hk : k1 = 1
      · subst hk
        go_enter Tryz.func36, Tryz.ntmps36
        go_wp2_with fail
        go_ret
        exact ⟨ret_bool (by rw [HT.out]; simp), ((Ext.refl w).alloc _).alloc _⟩
      · have ek : (k1 == 1) = false := by simpa using hk
        have HK := Lib.hid hk
        clear hk
        go_enter Tryz.func36, Tryz.ntmps36
        go_wp2_with fail
        go_ret
        exact ⟨ret_bool (by rw [HT.out]; simp [HK.out]), ((Ext.refl w).alloc _).alloc _⟩
    have e2 : (tk == 2) = false := by simpa using h2
    by_cases h6 : tk = 6
    · subst h6
      by_cases hk : k1 = 4
      · subst hk
        go_enter Tryz.func36, Tryz.ntmps36
        go_wp2_with fail
        go_ret
        exact ⟨ret_bool (by rw [HT.out]; simp [toList_beq]), ((Ext.refl w).alloc _).alloc _⟩
      · have ek : (k1 == 4) = false := by simpa using hk
        have HK := Lib.hid hk
        clear hk
        go_enter Tryz.func36, Tryz.ntmps36
        go_wp2_with fail
        go_ret
        exact ⟨ret_bool (by rw [HT.out]; simp [HK.out]), ((Ext.refl w).alloc _).alloc _⟩
    have e6 : (tk == 6) = false := by simpa using h6
    by_cases h7 : tk = 7
    · subst h7
      by_cases hk : k1 = 5
      · subst hk
        obtain ⟨mb, hmb⟩ : ∃ mb, items.any (fun x => !(Ty.takesOne elem x)) = mb := ⟨_, rfl⟩
        have HM := Lib.hid hmb
        clear hmb
        go_enter Tryz.func36, Tryz.ntmps36
        go_wp2_with fail
        refine (containsFuncRV valR rfl 77 #[.pointer (some ⟨w.heap.size + 1, 0, none⟩)] (fun x => !(Ty.takesOne elem x)) S items _ _ Tryz.enterCV (fun b hb => Nat.lt_of_lt_of_le (HS.out b hb) (HX0.out _ _).size) ((valsAt_iff.1 HVs.out).alike (Alike.of_ext (HX0.out _ _) HS.out))
          (fun x hx cx w1 hw1 hxa => wrong1_ok x elem S w1 cx (w.heap.size + 1) _ _ _ _ (fun b hb => Nat.lt_of_lt_of_le (HS.out b hb) ((HX0.out _ _).trans hw1).size) hxa (HTe.out.alike (Alike.of_ext ((HX0.out _ _).trans hw1) HS.out)) ((hw1.block _ (by simp)).trans (by simpa using heap_alloc_new (w.alloc _) _)) (fun y hy => by
            obtain rfl : y = x := by simpa using hy
            exact IH.out y hx))).mono ?_
        rintro e w' ⟨rfl, hx2⟩
        have HX2 := Lib.hid hx2
        clear hx2
        rw [HM.out]
        go_wp2_with fail
        go_ret
        exact ⟨ret_bool (by rw [HT.out, ← HM.out, not_any]; simp), (HX0.out _ _).trans HX2.out⟩
      · have ek : (k1 == 5) = false := by simpa using hk
        have HK := Lib.hid hk
        clear hk
        go_enter Tryz.func36, Tryz.ntmps36
        go_wp2_with fail
        go_ret
        exact ⟨ret_bool (by rw [HT.out]; simp [HK.out]), ((Ext.refl w).alloc _).alloc _⟩
    have e7 : (tk == 7) = false := by simpa using h7
    by_cases h8 : tk = 8
    · subst h8
      by_cases hk : k1 = 6
      · subst hk
        go_enter Tryz.func36, Tryz.ntmps36
        go_wp2_with fail
        refine (record_okC 6 b1 n1 t1 ut1 ui1 items names (HRec.out (by trivial)) attrs S _ [_, _, _, _, _, _, _, _] _ (fun b hb => Nat.lt_of_lt_of_le (HS.out b hb) (HX0.out _ _).size) (HV.out.alike (Alike.of_ext (HX0.out _ _) HS.out)) (HTa.out.alike (Alike.of_ext (HX0.out _ _) HS.out)) IH.out).mono ?_
        rintro e w' ⟨rfl, hx2⟩
        have HX2 := Lib.hid hx2
        clear hx2
        obtain ⟨rb, hrb⟩ : ∃ rb, recB attrs items names = rb := ⟨_, rfl⟩
        rw [hrb]
        have HRb := Lib.hid hrb
        clear hrb
        go_wp2_with fail
        go_ret
        exact ⟨ret_bool (by rw [HT.out, HRb.out]; simp), (HX0.out _ _).trans HX2.out⟩
      · have ek : (k1 == 6) = false := by simpa using hk
        have HK := Lib.hid hk
        clear hk
        go_enter Tryz.func36, Tryz.ntmps36
        go_wp2_with fail
        go_ret
        exact ⟨ret_bool (by rw [HT.out]; simp [HK.out]), ((Ext.refl w).alloc _).alloc _⟩
    have e8 : (tk == 8) = false := by simpa using h8
    have HN := Lib.hid (show ¬ tk = 1 ∧ ¬ tk = 2 ∧ ¬ tk = 3 ∧ ¬ tk = 4 ∧ ¬ tk = 5 ∧ ¬ tk = 6 ∧ ¬ tk = 7 ∧ ¬ tk = 8 from ⟨h1, h2, h3, h4, h5, h6, h7, h8⟩)
    clear h1 h2 h3 h4 h5 h6 h7 h8
    go_enter Tryz.func36, Tryz.ntmps36
    go_wp2_with fail
    go_ret
    exact ⟨ret_bool (by rw [HT.out]; simp [HN.out]), ((Ext.refl w).alloc _).alloc _⟩
end Go.Proofs.YtjllolagcdjlnaaGreat
