/-
  What value.Order, value.Same and value.Depth come to. The conditions: none beyond each contract's own (the values lie in memory as they should).
-/
import Derived.Test.YtpkgkabcikmopaaOrder
namespace Go.Proofs.Ytpkgkabcikmopaa
open Go.RowKit

theorem row_take {S : Nat → Prop} {w : World} {l : List Val} {b o : Nat} (h : Val.RowAt S w l b o) (n : Nat) : Val.RowAt S w (l.take n) b o :=
  Val.RowAt.mk fun i x hx => by
    rw [List.getElem?_take] at hx
    split at hx
    · exact h.get hx
    · cases hx

theorem ValsAt.take {S : Nat → Prop} {w : World} {l : List Val} {A : Option Addr} {cap : Nat} (h : ValsAt S w l (.slice A l.length cap)) (n : Nat) : ValsAt S w (l.take n) (.slice A (min l.length n) cap) := by
  obtain ⟨A', cap', he, ⟨h1, h2, h3⟩, hr⟩ := h
  injection he with hA _ hc
  subst hA hc
  refine ⟨A, cap, by rw [List.length_take, Nat.min_comm], ⟨by rw [List.length_take]; omega, by rw [List.length_take]; omega, h3⟩, fun hn => ?_⟩
  rw [List.length_take] at hn
  obtain ⟨b, o, e, hs, hrow⟩ := hr (by omega)
  exact ⟨b, o, e, hs, row_take hrow n⟩

theorem Val.At.vals {S : Nat → Prop} {w : World} {k : Int} {bo : Bool} {i : Int} {t ut ui : ByteArray} {items : List Val} {names : List ByteArray} {v0 v1 v2 v3 v4 v5 v6 v7 : Value}
    (h : Val.At S w (.mk k bo i t ut ui items names) [v0, v1, v2, v3, v4, v5, v6, v7]) : ValsAt S w items v6 := by
  unfold Val.At at h
  obtain ⟨A, cap, nv, he, _, hb, hr, _⟩ := h
  simp only [List.cons.injEq] at he
  exact ⟨A, cap, he.2.2.2.2.2.2.1, hb, hr⟩
theorem Val.At.strs {S : Nat → Prop} {w : World} {k : Int} {bo : Bool} {i : Int} {t ut ui : ByteArray} {items : List Val} {names : List ByteArray} {v0 v1 v2 v3 v4 v5 v6 v7 : Value}
    (h : Val.At S w (.mk k bo i t ut ui items names) [v0, v1, v2, v3, v4, v5, v6, v7]) : StrsAt S w names v7 := by
  unfold Val.At at h
  obtain ⟨A, cap, nv, he, _, _, _, hs⟩ := h
  simp only [List.cons.injEq] at he
  rw [he.2.2.2.2.2.2.2.1]; exact hs

set_option maxRecDepth 100000 in
set_option maxHeartbeats 1600000 in
theorem order_ok (n : Nat) : ∀ (a b : Val) (S : Nat → Prop) (w : World) (ca cb : List Value), SizeOf.sizeOf a ≤ n → (∀ b, S b → b < w.heap.size) → Val.At S w a ca → Val.At S w b cb →
    Calls Try.prog 25 #[.agg ca.toArray, .agg cb.toArray] w fun en w' => en = .returned (.int .i64 (a.ord b)) ∧ Ext w w' := by
  induction n with
  | zero => intro a; cases a; simp
  | succ n ih =>
    intro a b S w ca cb hn hS ha hb
    have Ha := Lib.hid ha
    have Hb := Lib.hid hb
    have HS := Lib.hid hS
    have Hn := Lib.hid hn
    have IH := Lib.hid ih
    have Hd := Lib.hid (Val.ord_def a b)
    cases a with
    | mk k bo i t ut ui items names =>
    cases b with
    | mk k' bo' i' t' ut' ui' items' names' =>
    unfold Val.At at ha hb
    obtain ⟨A, cap, nv, rfl, _, ⟨ha1, ha2, ha3⟩, hai, A2, cap2, rfl, ha4, ha5, ha6, ha7, han⟩ := ha
    obtain ⟨B, bcap, nv, rfl, _, ⟨hb1, hb2, hb3⟩, hbi, B2, bcap2, rfl, hb4, hb5, hb6, hb7, hbn⟩ := hb
    rw [LIM_eq] at ha1 hb1 ha4 hb4
    rw [maxLen_eq] at ha3 hb3 ha6 hb6
    have Hai := Lib.hid hai
    have Hbi := Lib.hid hbi
    have Han := Lib.hid han
    have Hbn := Lib.hid hbn
    clear hai hbi han hbn ha7 hb7 hS hn ih
    by_cases hkk : k = k'
    · subst hkk
      by_cases h1 : k = 1
      · subst h1
        go_enter Try.func25, Try.ntmps25
        go_wp2_with fail
        obtain ⟨w1, hw1⟩ : ∃ w1, w1 = (w.alloc (.cells #[.int .i64 1, .bool bo, .int .i64 i, .string t, .string ut, .string ui, .slice A items.length cap, .slice A2 names.length cap2] 27)).alloc (.cells #[.int .i64 1, .bool bo', .int .i64 i', .string t', .string ut', .string ui', .slice B items'.length bcap, .slice B2 names'.length bcap2] 27) := ⟨_, rfl⟩
        rw [← hw1]
        have c0 := cell_regrown (show w1.cell? ⟨w.heap.size, 1, none⟩ = some (.bool bo) by rw [hw1]; go_simp)
        have c1 := cell_regrown (show w1.cell? ⟨w.heap.size + 1, 1, none⟩ = some (.bool bo') by rw [hw1]; go_simp)
        have HX := Lib.hid (show Ext w w1 by rw [hw1]; exact ((Ext.refl w).alloc _).alloc _)
        clear hw1
        refine region_later (by kernel_rfl) (by kernel_rfl) ?_
        repeat (quiet_step (first | (go_at_call 50; exact later_same (bit_ok _) _ _) | (go_at_call 49; exact later_same (compare_int _ _) _ _)))
        refine wpQuiet_nil ?_
        intro w2 hw2
        have HX2 := Lib.hid hw2
        clear hw2 c0 c1
        go_wp2_with fail
        go_ret
        exact ⟨ret_int (by rw [Hd.out]; rfl), HX.out.trans HX2.out⟩
      by_cases h2 : k = 2
      · subst h2
        go_enter Try.func25, Try.ntmps25
        go_wp2_with (go_at_call 51; refine (compare_int64 _ _ _).mono ?_; rintro e w' ⟨rfl, rfl⟩)
        go_ret
        exact ⟨ret_int (by rw [Hd.out]; rfl), ((Ext.refl w).alloc _).alloc _⟩
      by_cases h3 : k = 3
      · subst h3
        go_enter Try.func25, Try.ntmps25
        go_wp2_with (go_at_call 52; refine (compare_string _ _ _).mono ?_; rintro e w' ⟨rfl, rfl⟩)
        go_ret
        exact ⟨ret_int (by rw [Hd.out]; rfl), ((Ext.refl w).alloc _).alloc _⟩
      by_cases h4 : k = 4
      · subst h4
        go_enter Try.func25, Try.ntmps25
        go_wp2_with (go_at_call 53; refine (uids_ok _ _ _ _ _).mono ?_; rintro e w' ⟨rfl, hx2⟩; have HX2 := Lib.hid hx2; clear hx2)
        go_ret
        exact ⟨ret_int (by rw [Hd.out]; rfl), (((Ext.refl w).alloc _).alloc _).trans HX2.out⟩
      by_cases h5 : k = 5
      · subst h5
        go_enter Try.func25, Try.ntmps25
        go_wp2_with (go_at_call 54; refine (compareFunc_ok S items items' _ _ _ (fun b hb => Nat.lt_of_lt_of_le (HS.out b hb) (((Ext.refl w).alloc _).alloc _).size) (Ha.out.vals.alike (Alike.of_ext (((Ext.refl w).alloc _).alloc _) HS.out)) (Hb.out.vals.alike (Alike.of_ext (((Ext.refl w).alloc _).alloc _) HS.out)) (fun x hx y _ w1 cx cy hs1 hx1 hy1 => IH.out x y S w1 cx cy (by have := Hn.out; have := List.sizeOf_lt_of_mem hx; simp at *; omega) hs1 hx1 hy1)).mono ?_; rintro e w' ⟨rfl, hx2⟩; have HX2 := Lib.hid hx2; clear hx2)
        go_ret
        exact ⟨ret_int (by rw [Hd.out]; rfl), (((Ext.refl w).alloc _).alloc _).trans HX2.out⟩
      by_cases h6 : k = 6
      · subst h6
        go_enter Try.func25, Try.ntmps25
        go_wp2_with fail
        obtain ⟨w1, hw1⟩ : ∃ w1, w1 = (w.alloc (.cells #[.int .i64 6, .bool bo, .int .i64 i, .string t, .string ut, .string ui, .slice A items.length cap, .slice A2 names.length cap2] 27)).alloc (.cells #[.int .i64 6, .bool bo', .int .i64 i', .string t', .string ut', .string ui', .slice B items'.length bcap, .slice B2 names'.length bcap2] 27) := ⟨_, rfl⟩
        rw [← hw1]
        have c0 := cell_regrown (show w1.cell? ⟨w.heap.size, 0, none⟩ = some (.int .i64 6) by rw [hw1]; go_simp)
        have c1 := cell_regrown (show w1.cell? ⟨w.heap.size, 1, none⟩ = some (.bool bo) by rw [hw1]; go_simp)
        have c2 := cell_regrown (show w1.cell? ⟨w.heap.size, 2, none⟩ = some (.int .i64 i) by rw [hw1]; go_simp)
        have c3 := cell_regrown (show w1.cell? ⟨w.heap.size, 3, none⟩ = some (.string t) by rw [hw1]; go_simp)
        have c4 := cell_regrown (show w1.cell? ⟨w.heap.size, 4, none⟩ = some (.string ut) by rw [hw1]; go_simp)
        have c5 := cell_regrown (show w1.cell? ⟨w.heap.size, 5, none⟩ = some (.string ui) by rw [hw1]; go_simp)
        have c6 := cell_regrown (show w1.cell? ⟨w.heap.size, 6, none⟩ = some (.slice A items.length cap) by rw [hw1]; go_simp)
        have c7 := cell_regrown (show w1.cell? ⟨w.heap.size, 7, none⟩ = some (.slice A2 names.length cap2) by rw [hw1]; go_simp)
        have d0 := cell_regrown (show w1.cell? ⟨w.heap.size + 1, 0, none⟩ = some (.int .i64 6) by rw [hw1]; go_simp)
        have d1 := cell_regrown (show w1.cell? ⟨w.heap.size + 1, 1, none⟩ = some (.bool bo') by rw [hw1]; go_simp)
        have d2 := cell_regrown (show w1.cell? ⟨w.heap.size + 1, 2, none⟩ = some (.int .i64 i') by rw [hw1]; go_simp)
        have d3 := cell_regrown (show w1.cell? ⟨w.heap.size + 1, 3, none⟩ = some (.string t') by rw [hw1]; go_simp)
        have d4 := cell_regrown (show w1.cell? ⟨w.heap.size + 1, 4, none⟩ = some (.string ut') by rw [hw1]; go_simp)
        have d5 := cell_regrown (show w1.cell? ⟨w.heap.size + 1, 5, none⟩ = some (.string ui') by rw [hw1]; go_simp)
        have d6 := cell_regrown (show w1.cell? ⟨w.heap.size + 1, 6, none⟩ = some (.slice B items'.length bcap) by rw [hw1]; go_simp)
        have d7 := cell_regrown (show w1.cell? ⟨w.heap.size + 1, 7, none⟩ = some (.slice B2 names'.length bcap2) by rw [hw1]; go_simp)
        have hx : Ext w w1 := by rw [hw1]; exact ((Ext.refl w).alloc _).alloc _
        have HX := Lib.hid hx
        clear hw1
        have HS1 := Lib.hid (show ∀ b, S b → b < w1.heap.size from fun b hb => Nat.lt_of_lt_of_le (HS.out b hb) hx.size)
        have Ha1 := Lib.hid (Ha.out.alike (Alike.of_ext hx HS.out))
        have Hb1 := Lib.hid (Hb.out.alike (Alike.of_ext hx HS.out))
        clear hx
        have q1 : ∀ d os, Calls Try.prog 56 #[.slice A2 names.length cap2, .slice B2 names'.length bcap2] (Sort.grow (redrawn w1 d) os) fun e w'' => e = .returned (.int .i64 (lexL cmpS names names')) ∧ ∃ p : Regrown, w'' = Sort.grow (redrawn w1 p.d) p.os := fun d os =>
          (compareStrs_ok S names names' _ _ _ (fun b hb => Nat.lt_of_lt_of_le (HS1.out b hb) (below_regrown w1 d os).size) (Ha1.out.strs.alike (Alike.of_ext (below_regrown w1 d os) HS1.out)) (Hb1.out.strs.alike (Alike.of_ext (below_regrown w1 d os) HS1.out))).mono fun _ _ ⟨he, hw⟩ => ⟨he, ⟨⟨d, os⟩, hw.symm⟩⟩
        have q2 : ∀ d os, Calls Try.prog 54 #[.slice A (min items.length names.length) cap, .slice B (min items'.length names'.length) bcap, .func (.func 25) #[] #[]] (Sort.grow (redrawn w1 d) os) fun e w'' => e = .returned (.int .i64 (lexL Val.ord (items.take names.length) (items'.take names'.length))) ∧ ∃ p : Regrown, w'' = Sort.grow (redrawn w1 p.d) p.os := fun d os =>
          Calls.regrown_of (compareFunc_ok S _ _ _ _ _ (fun b hb => Nat.lt_of_lt_of_le (HS1.out b hb) (below_regrown w1 d os).size) ((Ha1.out.vals.take names.length).alike (Alike.of_ext (below_regrown w1 d os) HS1.out)) ((Hb1.out.vals.take names'.length).alike (Alike.of_ext (below_regrown w1 d os) HS1.out)) (fun x hx y _ w1 cx cy hs1 hx1 hy1 => IH.out x y S w1 cx cy (by have := Hn.out; have := List.sizeOf_lt_of_mem (List.mem_of_mem_take hx); simp at *; omega) hs1 hx1 hy1))
        have Q1 := Lib.hid q1
        have Q2 := Lib.hid q2
        clear q1 q2
        refine region_later_tail 10 (by kernel_rfl) (by kernel_rfl) ?_
        simp only [List.take_succ_cons, List.take_zero, List.drop_succ_cons, List.drop_zero]
        repeat (quiet_step (first | (go_at_call 56; exact Q1.out _ _) | (go_at_call 54; exact Q2.out _ _) | (go_at_call 57; exact later_call (fun w1 _ => named_ok _ _ _ _ _ _ _ _ _ _ _ _ w1 (by assumption) (by rw [maxLen_eq]; assumption) (by rw [maxLen_eq]; omega)) _ _)))
        refine wpQuiet_nil ?_
        intro w2 hw2
        have HX2 := Lib.hid hw2
        clear hw2 c0 c1 c2 c3 c4 c5 c6 c7 d0 d1 d2 d3 d4 d5 d6 d7
        go_wp2_with (go_at_call 55; refine (or_two (lexL cmpS names names') (lexL Val.ord (items.take names.length) (items'.take names'.length)) _ _ (by go_simp) (by go_simp)).mono ?_; rintro e w' ⟨rfl, rfl⟩)
        go_ret
        exact ⟨ret_int (by rw [Hd.out]; rfl), (HX.out.trans HX2.out).alloc _⟩
      have e1 : (k == 1) = false := by simpa using h1
      have e2 : (k == 2) = false := by simpa using h2
      have e3 : (k == 3) = false := by simpa using h3
      have e4 : (k == 4) = false := by simpa using h4
      have e5 : (k == 5) = false := by simpa using h5
      have e6 : (k == 6) = false := by simpa using h6
      have HK := Lib.hid (And.intro h1 (And.intro h2 (And.intro h3 (And.intro h4 (And.intro h5 h6)))))
      clear h1 h2 h3 h4 h5 h6
      go_enter Try.func25, Try.ntmps25
      go_wp2_with fail
      go_ret
      obtain ⟨h1, h2, h3, h4, h5, h6⟩ := HK.out
      exact ⟨ret_int (by rw [Hd.out]; simp [Val.kind, h1, h2, h3, h4, h5, h6]), ((Ext.refl w).alloc _).alloc _⟩
    · have e0 : (k != k') = true := by simpa using hkk
      have Hk := Lib.hid hkk
      clear hkk
      go_enter Try.func25, Try.ntmps25
      go_wp2_with (go_at_call 49; refine (compare_int _ _ _).mono ?_; rintro e w' ⟨rfl, rfl⟩)
      go_ret
      exact ⟨ret_int (by rw [Hd.out]; simp [Val.kind, Hk.out]), ((Ext.refl w).alloc _).alloc _⟩

end Go.Proofs.Ytpkgkabcikmopaa
