/-
  Whether a value is of a type: the document's own answer. The conditions: the value is as it must be, of sets what they hold is one, both lie in memory as they should.
-/
import Derived.Test.YtbkaffhbhimglaaGreatGh
import Derived.Test.YtbkaffhbhimglaaGreatBelowQ
namespace Go.Proofs.YtbkaffhbhimglaaGreat
open Go.RowKit
open Lib renaming hid → q_
set_option maxRecDepth 100000
set_option maxHeartbeats 16000000
theorem find_neg {bo : Bool} {i : Int} {t ut ui : ByteArray} {items : List Val} {names : List ByteArray} {s : ByteArray} (hn : names.length = items.length) :
  decide (pos (Val.find (.mk 6 bo i t ut ui items names) s) < 0) = !(names.any fun n => decide (n = s)) := by
 have e : Val.find (.mk 6 bo i t ut ui items names) s = (fidx (fun x : ByteArray => s.toList == x.toList) names).bind fun i => if i < items.length then some i else none := rfl
 rw [e, show (names.any fun n => decide (n = s)) = names.any fun x => s.toList == x.toList from congrArg names.any (funext fun x => (zdk s x).symm), ← zch]
 cases h : fidx (fun x : ByteArray => s.toList == x.toList) names with
 | none => rfl
 | some i =>
  obtain ⟨x, hx, _⟩ := zew h
  have := (List.getElem?_eq_some_iff.1 hx).1
  simp only [Option.bind_some, if_pos (show i < items.length by omega), pos]
  simp
abbrev TakesOfR (l : List Val) : Prop := ∀ x ∈ l, ∀ (t : Ty), t.ones = true → ∀ (S : Nat → Prop) (w : World) (cx ct : List Value), (∀ b, S b → b < w.heap.size) → Val.At S w x cx → Ty.At S w t ct →
 Calls Tryz.prog 36 #[.agg cx.toArray, .agg ct.toArray] w fun e w' => e = .returned (.bool (t.takes x)) ∧ Ext w w'
theorem takesR_ok (n : Nat) : ∀ (v : Val), SizeOf.sizeOf v ≤ n → v.Is → TakesOfR [v] := by
 induction n with
 | zero => intro v; cases v; simp
 | succ n ihn =>
  intro v hn his v' hv' t hones S w cv ct hS hv ht
  obtain rfl : v' = v := by simpa using hv'
  obtain ⟨vk, vb, vi, vt, vut, vui, items, names⟩ := v'
  obtain ⟨tk, tn, elem, attrs⟩ := t
  obtain ⟨k1, b1, n1, t1, ut1, ui1, A1, l1, c1, A2, l2, c2, rfl⟩ := hv.shape
  have hvs := hv.vals
  have hst := hv.strs
  obtain ⟨rfl, rfl, rfl, rfl, rfl, rfl⟩ : k1 = vk ∧ b1 = vb ∧ n1 = vi ∧ t1 = vt ∧ ut1 = vut ∧ ui1 = vui := by
   unfold Val.At at hv; obtain ⟨_, _, _, e, _⟩ := hv; simp at e; exact ⟨e.1, e.2.1, e.2.2.1, e.2.2.2.1, e.2.2.2.2.1, e.2.2.2.2.2.1⟩
  obtain ⟨tA, ta, tB, tb, hct, _, hte, hta⟩ := Ty.At.parts ht
  obtain rfl : ct = [.int .i64 tk, .string tn, .slice tA elem.length ta, .slice tB attrs.length tb] := hct
  have hte : tyR.RowsAt S w elem (.slice tA elem.length ta) := hte
  have hta : atrR.RowsAt S w attrs (.slice tB attrs.length tb) := hta
  have ih : TakesOfR items := fun x hx => by
   have hxi : x.Is := by
    unfold Val.Is at his
    rcases his with h | h | h | h | h | h
    ·rw [h.2.2.2.2.2.1] at hx; cases hx
    ·rw [h.2.2.2.2.2.1] at hx; cases hx
    ·rw [h.2.2.2.2.2.1] at hx; cases hx
    ·rw [h.2.2.2.2.1] at hx; cases hx
    ·exact (Val.are_iff _).1 h.2.2.2.2.2.2.2.2.2 x hx
    ·exact (Val.are_iff _).1 h.2.2.2.2.2.2.2.2.2 x hx
   exact ihn x (by have := List.sizeOf_lt_of_mem hx; simp at hn; omega) hxi x (by simp)
  have hrec : k1 = 6 → names.length = items.length := fun hk => by
   unfold Val.Is at his
   rcases his with h | h | h | h | h | h
   ·omega
   ·omega
   ·omega
   ·omega
   ·omega
   ·exact h.2.2.2.2.2.2.1
  have HT : Hid (Ty.takes (.mk tk tn elem attrs) (.mk k1 b1 n1 t1 ut1 ui1 items names) = if tk = 1 then decide (k1 = 1) && b1 else if tk = 2 then decide (k1 = 1) && !b1 else if tk = 3 then decide (k1 = 1) else if tk = 4 then decide (k1 = 2) else if tk = 5 then decide (k1 = 3)
    else if tk = 6 then decide (k1 = 4) && decide (ut1 = tn) else if tk = 7 then decide (k1 = 5) && items.all (fun x => Ty.takesOne elem x) else if tk = 8 then decide (k1 = 6) && recB attrs items names else false) := q_ (by rw [Ty.takes]; rfl)
  generalize Ty.takes (.mk tk tn elem attrs) (.mk k1 b1 n1 t1 ut1 ui1 items names) = res at *
  obtain ⟨_, _, e, ⟨hi0, hi1, hi2⟩, hir⟩ := id hvs
  injection e with e1 e2 e3
  subst e1 e2 e3
  obtain ⟨_, _, e, hn0, hn1, hn2, _, hnr⟩ := id hst
  injection e with e1 e2 e3
  subst e1 e2 e3
  obtain ⟨_, _, e, ⟨ha0, ha1, ha2⟩, har⟩ := id hta
  injection e with e1 e2 e3
  subst e1 e3
  obtain ⟨_, _, e, ⟨hb0, hb1, hb2⟩, hbr⟩ := id hte
  injection e with e1 e2 e3
  subst e1 e3
  rw [zak] at hi0 hn0 ha0 hb0
  rw [zab] at hi2 hn2 ha2 hb2
  have HS := q_ hS
  have HVl := q_ hv
  have HIr := q_ hir
  have HNr := q_ hnr
  have HTr := q_ hbr
  have HTr8 := q_ har
  have HTt := q_ hta
  have IH := q_ ih
  have HRec := q_ hrec
  have HO := q_ (ones_parts hones)
  clear hn his ihn hS hv ht hvs hst hte hta ih hrec hv' hir hnr hbr har hones e2
  by_cases q1 : tk = 1
  ·subst q1
   by_cases hk : k1 = 1
   ·subst hk
    obtain ⟨W, hW⟩ : ∃ W, W = ((w.alloc (.cells #[.int .i64 1, .bool b1, .int .i64 n1, .string t1, .string ut1, .string ui1, .slice A1 items.length c1, .slice A2 names.length c2] 46)).alloc (.cells #[.int .i64 1, .string tn, .slice tA elem.length ta, .slice tB attrs.length tb] 53)).alloc (.cells #[.int .i64 0, .int .i64 1, .int .i64 1, .int .i64 1, .int .i64 2, .int .i64 3, .int .i64 4, .int .i64 5, .int .i64 6] 3) := ⟨_, rfl⟩
    obtain ⟨hb0, hb1, hb2, hsz, hx⟩ := zcj w (.cells #[.int .i64 1, .bool b1, .int .i64 n1, .string t1, .string ut1, .string ui1, .slice A1 items.length c1, .slice A2 names.length c2] 46) (.cells #[.int .i64 1, .string tn, .slice tA elem.length ta, .slice tB attrs.length tb] 53) (.cells #[.int .i64 0, .int .i64 1, .int .i64 1, .int .i64 1, .int .i64 2, .int .i64 3, .int .i64 4, .int .i64 5, .int .i64 6] 3)
    rw [← hW] at hb0 hb1 hb2 hsz hx
    have g0 := zaa (show W.cell? ⟨w.heap.size, 0, none⟩ = some (.int .i64 1) from cell_of_row _ _ 0 _ _ _ hb0)
    have g1 := zaa (show W.cell? ⟨w.heap.size + 1, 0, none⟩ = some (.int .i64 1) from cell_of_row _ _ 0 _ _ _ hb1)
    have g2 := zaa (show W.cell? ⟨w.heap.size + 2, 1, none⟩ = some (.int .i64 1) from cell_of_row _ _ 1 _ _ _ hb2)
    have g2' := zaa (show W.cell? ⟨w.heap.size + 1 + 1, 1, none⟩ = some (.int .i64 1) from cell_of_row _ _ 1 _ _ _ hb2)
    have HXW := q_ hx
    have HB0 := q_ hb0
    have HB1 := q_ hb1
    clear hb0 hb1 hb2 hsz hx
    subst hW
    go_enter Tryz.func36, Tryz.ntmps36
    go_wp2_with fail
    refine zae (by kernel_rfl) (by kernel_rfl) ?_
    iterate 18 (go_big_quiet_step (fail))
    refine wpQuiet_nil ?_
    intro w4 hw4
    have HX4 := q_ (HXW.out.trans hw4)
    have HV4 := q_ ((hw4.block _ (zad HB0.out)).trans HB0.out)
    have HT4 := q_ ((hw4.block _ (zad HB1.out)).trans HB1.out)
    clear hw4 g0 g1 g2 g2' HXW HB0 HB1
    have d0 : w4.cell? ⟨w.heap.size + 1, 0, none⟩ = some (.int .i64 1) := cell_of_row _ _ 0 _ _ _ HT4.out
    have d1 : w4.cell? ⟨w.heap.size, 1, none⟩ = some (.bool b1) := cell_of_row _ _ 1 _ _ _ HV4.out
    go_wp2_with fail
    go_ret
    exact ⟨zal (by rw [HT.out]; simp), HX4.out⟩
   ·have ek : (k1 != 1) = true := by simpa using hk
    have HK := q_ hk
    clear hk
    obtain ⟨W, hW⟩ : ∃ W, W = ((w.alloc (.cells #[.int .i64 k1, .bool b1, .int .i64 n1, .string t1, .string ut1, .string ui1, .slice A1 items.length c1, .slice A2 names.length c2] 46)).alloc (.cells #[.int .i64 1, .string tn, .slice tA elem.length ta, .slice tB attrs.length tb] 53)).alloc (.cells #[.int .i64 0, .int .i64 1, .int .i64 1, .int .i64 1, .int .i64 2, .int .i64 3, .int .i64 4, .int .i64 5, .int .i64 6] 3) := ⟨_, rfl⟩
    obtain ⟨hb0, hb1, hb2, hsz, hx⟩ := zcj w (.cells #[.int .i64 k1, .bool b1, .int .i64 n1, .string t1, .string ut1, .string ui1, .slice A1 items.length c1, .slice A2 names.length c2] 46) (.cells #[.int .i64 1, .string tn, .slice tA elem.length ta, .slice tB attrs.length tb] 53) (.cells #[.int .i64 0, .int .i64 1, .int .i64 1, .int .i64 1, .int .i64 2, .int .i64 3, .int .i64 4, .int .i64 5, .int .i64 6] 3)
    rw [← hW] at hb0 hb1 hb2 hsz hx
    have g0 := zaa (show W.cell? ⟨w.heap.size, 0, none⟩ = some (.int .i64 k1) from cell_of_row _ _ 0 _ _ _ hb0)
    have g1 := zaa (show W.cell? ⟨w.heap.size + 1, 0, none⟩ = some (.int .i64 1) from cell_of_row _ _ 0 _ _ _ hb1)
    have g2 := zaa (show W.cell? ⟨w.heap.size + 2, 1, none⟩ = some (.int .i64 1) from cell_of_row _ _ 1 _ _ _ hb2)
    have g2' := zaa (show W.cell? ⟨w.heap.size + 1 + 1, 1, none⟩ = some (.int .i64 1) from cell_of_row _ _ 1 _ _ _ hb2)
    have HXW := q_ hx
    have HB0 := q_ hb0
    have HB1 := q_ hb1
    clear hb0 hb1 hb2 hsz hx
    subst hW
    go_enter Tryz.func36, Tryz.ntmps36
    go_wp2_with fail
    refine zae (by kernel_rfl) (by kernel_rfl) ?_
    iterate 18 (go_big_quiet_step (fail))
    refine wpQuiet_nil ?_
    intro w4 hw4
    have HX4 := q_ (HXW.out.trans hw4)
    have HV4 := q_ ((hw4.block _ (zad HB0.out)).trans HB0.out)
    have HT4 := q_ ((hw4.block _ (zad HB1.out)).trans HB1.out)
    clear hw4 g0 g1 g2 g2' HXW HB0 HB1
    go_wp2_with fail
    go_ret
    exact ⟨zal (by rw [HT.out]; simp [HK.out]), HX4.out⟩
  by_cases q2 : tk = 2
  ·subst q2
   by_cases hk : k1 = 1
   ·subst hk
    obtain ⟨W, hW⟩ : ∃ W, W = ((w.alloc (.cells #[.int .i64 1, .bool b1, .int .i64 n1, .string t1, .string ut1, .string ui1, .slice A1 items.length c1, .slice A2 names.length c2] 46)).alloc (.cells #[.int .i64 2, .string tn, .slice tA elem.length ta, .slice tB attrs.length tb] 53)).alloc (.cells #[.int .i64 0, .int .i64 1, .int .i64 1, .int .i64 1, .int .i64 2, .int .i64 3, .int .i64 4, .int .i64 5, .int .i64 6] 3) := ⟨_, rfl⟩
    obtain ⟨hb0, hb1, hb2, hsz, hx⟩ := zcj w (.cells #[.int .i64 1, .bool b1, .int .i64 n1, .string t1, .string ut1, .string ui1, .slice A1 items.length c1, .slice A2 names.length c2] 46) (.cells #[.int .i64 2, .string tn, .slice tA elem.length ta, .slice tB attrs.length tb] 53) (.cells #[.int .i64 0, .int .i64 1, .int .i64 1, .int .i64 1, .int .i64 2, .int .i64 3, .int .i64 4, .int .i64 5, .int .i64 6] 3)
    rw [← hW] at hb0 hb1 hb2 hsz hx
    have g0 := zaa (show W.cell? ⟨w.heap.size, 0, none⟩ = some (.int .i64 1) from cell_of_row _ _ 0 _ _ _ hb0)
    have g1 := zaa (show W.cell? ⟨w.heap.size + 1, 0, none⟩ = some (.int .i64 2) from cell_of_row _ _ 0 _ _ _ hb1)
    have g2 := zaa (show W.cell? ⟨w.heap.size + 2, 2, none⟩ = some (.int .i64 1) from cell_of_row _ _ 2 _ _ _ hb2)
    have g2' := zaa (show W.cell? ⟨w.heap.size + 1 + 1, 2, none⟩ = some (.int .i64 1) from cell_of_row _ _ 2 _ _ _ hb2)
    have HXW := q_ hx
    have HB0 := q_ hb0
    have HB1 := q_ hb1
    clear hb0 hb1 hb2 hsz hx
    subst hW
    go_enter Tryz.func36, Tryz.ntmps36
    go_wp2_with fail
    refine zae (by kernel_rfl) (by kernel_rfl) ?_
    iterate 18 (go_big_quiet_step (fail))
    refine wpQuiet_nil ?_
    intro w4 hw4
    have HX4 := q_ (HXW.out.trans hw4)
    have HV4 := q_ ((hw4.block _ (zad HB0.out)).trans HB0.out)
    have HT4 := q_ ((hw4.block _ (zad HB1.out)).trans HB1.out)
    clear hw4 g0 g1 g2 g2' HXW HB0 HB1
    have d0 : w4.cell? ⟨w.heap.size + 1, 0, none⟩ = some (.int .i64 2) := cell_of_row _ _ 0 _ _ _ HT4.out
    have d1 : w4.cell? ⟨w.heap.size, 1, none⟩ = some (.bool b1) := cell_of_row _ _ 1 _ _ _ HV4.out
    go_wp2_with fail
    go_ret
    exact ⟨zal (by rw [HT.out]; simp), HX4.out⟩
   ·have ek : (k1 != 1) = true := by simpa using hk
    have HK := q_ hk
    clear hk
    obtain ⟨W, hW⟩ : ∃ W, W = ((w.alloc (.cells #[.int .i64 k1, .bool b1, .int .i64 n1, .string t1, .string ut1, .string ui1, .slice A1 items.length c1, .slice A2 names.length c2] 46)).alloc (.cells #[.int .i64 2, .string tn, .slice tA elem.length ta, .slice tB attrs.length tb] 53)).alloc (.cells #[.int .i64 0, .int .i64 1, .int .i64 1, .int .i64 1, .int .i64 2, .int .i64 3, .int .i64 4, .int .i64 5, .int .i64 6] 3) := ⟨_, rfl⟩
    obtain ⟨hb0, hb1, hb2, hsz, hx⟩ := zcj w (.cells #[.int .i64 k1, .bool b1, .int .i64 n1, .string t1, .string ut1, .string ui1, .slice A1 items.length c1, .slice A2 names.length c2] 46) (.cells #[.int .i64 2, .string tn, .slice tA elem.length ta, .slice tB attrs.length tb] 53) (.cells #[.int .i64 0, .int .i64 1, .int .i64 1, .int .i64 1, .int .i64 2, .int .i64 3, .int .i64 4, .int .i64 5, .int .i64 6] 3)
    rw [← hW] at hb0 hb1 hb2 hsz hx
    have g0 := zaa (show W.cell? ⟨w.heap.size, 0, none⟩ = some (.int .i64 k1) from cell_of_row _ _ 0 _ _ _ hb0)
    have g1 := zaa (show W.cell? ⟨w.heap.size + 1, 0, none⟩ = some (.int .i64 2) from cell_of_row _ _ 0 _ _ _ hb1)
    have g2 := zaa (show W.cell? ⟨w.heap.size + 2, 2, none⟩ = some (.int .i64 1) from cell_of_row _ _ 2 _ _ _ hb2)
    have g2' := zaa (show W.cell? ⟨w.heap.size + 1 + 1, 2, none⟩ = some (.int .i64 1) from cell_of_row _ _ 2 _ _ _ hb2)
    have HXW := q_ hx
    have HB0 := q_ hb0
    have HB1 := q_ hb1
    clear hb0 hb1 hb2 hsz hx
    subst hW
    go_enter Tryz.func36, Tryz.ntmps36
    go_wp2_with fail
    refine zae (by kernel_rfl) (by kernel_rfl) ?_
    iterate 18 (go_big_quiet_step (fail))
    refine wpQuiet_nil ?_
    intro w4 hw4
    have HX4 := q_ (HXW.out.trans hw4)
    have HV4 := q_ ((hw4.block _ (zad HB0.out)).trans HB0.out)
    have HT4 := q_ ((hw4.block _ (zad HB1.out)).trans HB1.out)
    clear hw4 g0 g1 g2 g2' HXW HB0 HB1
    go_wp2_with fail
    go_ret
    exact ⟨zal (by rw [HT.out]; simp [HK.out]), HX4.out⟩
  by_cases q3 : tk = 3
  ·subst q3
   by_cases hk : k1 = 1
   ·subst hk
    obtain ⟨W, hW⟩ : ∃ W, W = ((w.alloc (.cells #[.int .i64 1, .bool b1, .int .i64 n1, .string t1, .string ut1, .string ui1, .slice A1 items.length c1, .slice A2 names.length c2] 46)).alloc (.cells #[.int .i64 3, .string tn, .slice tA elem.length ta, .slice tB attrs.length tb] 53)).alloc (.cells #[.int .i64 0, .int .i64 1, .int .i64 1, .int .i64 1, .int .i64 2, .int .i64 3, .int .i64 4, .int .i64 5, .int .i64 6] 3) := ⟨_, rfl⟩
    obtain ⟨hb0, hb1, hb2, hsz, hx⟩ := zcj w (.cells #[.int .i64 1, .bool b1, .int .i64 n1, .string t1, .string ut1, .string ui1, .slice A1 items.length c1, .slice A2 names.length c2] 46) (.cells #[.int .i64 3, .string tn, .slice tA elem.length ta, .slice tB attrs.length tb] 53) (.cells #[.int .i64 0, .int .i64 1, .int .i64 1, .int .i64 1, .int .i64 2, .int .i64 3, .int .i64 4, .int .i64 5, .int .i64 6] 3)
    rw [← hW] at hb0 hb1 hb2 hsz hx
    have g0 := zaa (show W.cell? ⟨w.heap.size, 0, none⟩ = some (.int .i64 1) from cell_of_row _ _ 0 _ _ _ hb0)
    have g1 := zaa (show W.cell? ⟨w.heap.size + 1, 0, none⟩ = some (.int .i64 3) from cell_of_row _ _ 0 _ _ _ hb1)
    have g2 := zaa (show W.cell? ⟨w.heap.size + 2, 3, none⟩ = some (.int .i64 1) from cell_of_row _ _ 3 _ _ _ hb2)
    have g2' := zaa (show W.cell? ⟨w.heap.size + 1 + 1, 3, none⟩ = some (.int .i64 1) from cell_of_row _ _ 3 _ _ _ hb2)
    have HXW := q_ hx
    have HB0 := q_ hb0
    have HB1 := q_ hb1
    clear hb0 hb1 hb2 hsz hx
    subst hW
    go_enter Tryz.func36, Tryz.ntmps36
    go_wp2_with fail
    refine zae (by kernel_rfl) (by kernel_rfl) ?_
    iterate 18 (go_big_quiet_step (fail))
    refine wpQuiet_nil ?_
    intro w4 hw4
    have HX4 := q_ (HXW.out.trans hw4)
    have HV4 := q_ ((hw4.block _ (zad HB0.out)).trans HB0.out)
    have HT4 := q_ ((hw4.block _ (zad HB1.out)).trans HB1.out)
    clear hw4 g0 g1 g2 g2' HXW HB0 HB1
    have d0 : w4.cell? ⟨w.heap.size + 1, 0, none⟩ = some (.int .i64 3) := cell_of_row _ _ 0 _ _ _ HT4.out
    go_wp2_with fail
    go_ret
    exact ⟨zal (by rw [HT.out]; simp), HX4.out⟩
   ·have ek : (k1 != 1) = true := by simpa using hk
    have HK := q_ hk
    clear hk
    obtain ⟨W, hW⟩ : ∃ W, W = ((w.alloc (.cells #[.int .i64 k1, .bool b1, .int .i64 n1, .string t1, .string ut1, .string ui1, .slice A1 items.length c1, .slice A2 names.length c2] 46)).alloc (.cells #[.int .i64 3, .string tn, .slice tA elem.length ta, .slice tB attrs.length tb] 53)).alloc (.cells #[.int .i64 0, .int .i64 1, .int .i64 1, .int .i64 1, .int .i64 2, .int .i64 3, .int .i64 4, .int .i64 5, .int .i64 6] 3) := ⟨_, rfl⟩
    obtain ⟨hb0, hb1, hb2, hsz, hx⟩ := zcj w (.cells #[.int .i64 k1, .bool b1, .int .i64 n1, .string t1, .string ut1, .string ui1, .slice A1 items.length c1, .slice A2 names.length c2] 46) (.cells #[.int .i64 3, .string tn, .slice tA elem.length ta, .slice tB attrs.length tb] 53) (.cells #[.int .i64 0, .int .i64 1, .int .i64 1, .int .i64 1, .int .i64 2, .int .i64 3, .int .i64 4, .int .i64 5, .int .i64 6] 3)
    rw [← hW] at hb0 hb1 hb2 hsz hx
    have g0 := zaa (show W.cell? ⟨w.heap.size, 0, none⟩ = some (.int .i64 k1) from cell_of_row _ _ 0 _ _ _ hb0)
    have g1 := zaa (show W.cell? ⟨w.heap.size + 1, 0, none⟩ = some (.int .i64 3) from cell_of_row _ _ 0 _ _ _ hb1)
    have g2 := zaa (show W.cell? ⟨w.heap.size + 2, 3, none⟩ = some (.int .i64 1) from cell_of_row _ _ 3 _ _ _ hb2)
    have g2' := zaa (show W.cell? ⟨w.heap.size + 1 + 1, 3, none⟩ = some (.int .i64 1) from cell_of_row _ _ 3 _ _ _ hb2)
    have HXW := q_ hx
    have HB0 := q_ hb0
    have HB1 := q_ hb1
    clear hb0 hb1 hb2 hsz hx
    subst hW
    go_enter Tryz.func36, Tryz.ntmps36
    go_wp2_with fail
    refine zae (by kernel_rfl) (by kernel_rfl) ?_
    iterate 18 (go_big_quiet_step (fail))
    refine wpQuiet_nil ?_
    intro w4 hw4
    have HX4 := q_ (HXW.out.trans hw4)
    have HV4 := q_ ((hw4.block _ (zad HB0.out)).trans HB0.out)
    have HT4 := q_ ((hw4.block _ (zad HB1.out)).trans HB1.out)
    clear hw4 g0 g1 g2 g2' HXW HB0 HB1
    go_wp2_with fail
    go_ret
    exact ⟨zal (by rw [HT.out]; simp [HK.out]), HX4.out⟩
  by_cases q4 : tk = 4
  ·subst q4
   by_cases hk : k1 = 2
   ·subst hk
    obtain ⟨W, hW⟩ : ∃ W, W = ((w.alloc (.cells #[.int .i64 2, .bool b1, .int .i64 n1, .string t1, .string ut1, .string ui1, .slice A1 items.length c1, .slice A2 names.length c2] 46)).alloc (.cells #[.int .i64 4, .string tn, .slice tA elem.length ta, .slice tB attrs.length tb] 53)).alloc (.cells #[.int .i64 0, .int .i64 1, .int .i64 1, .int .i64 1, .int .i64 2, .int .i64 3, .int .i64 4, .int .i64 5, .int .i64 6] 3) := ⟨_, rfl⟩
    obtain ⟨hb0, hb1, hb2, hsz, hx⟩ := zcj w (.cells #[.int .i64 2, .bool b1, .int .i64 n1, .string t1, .string ut1, .string ui1, .slice A1 items.length c1, .slice A2 names.length c2] 46) (.cells #[.int .i64 4, .string tn, .slice tA elem.length ta, .slice tB attrs.length tb] 53) (.cells #[.int .i64 0, .int .i64 1, .int .i64 1, .int .i64 1, .int .i64 2, .int .i64 3, .int .i64 4, .int .i64 5, .int .i64 6] 3)
    rw [← hW] at hb0 hb1 hb2 hsz hx
    have g0 := zaa (show W.cell? ⟨w.heap.size, 0, none⟩ = some (.int .i64 2) from cell_of_row _ _ 0 _ _ _ hb0)
    have g1 := zaa (show W.cell? ⟨w.heap.size + 1, 0, none⟩ = some (.int .i64 4) from cell_of_row _ _ 0 _ _ _ hb1)
    have g2 := zaa (show W.cell? ⟨w.heap.size + 2, 4, none⟩ = some (.int .i64 2) from cell_of_row _ _ 4 _ _ _ hb2)
    have g2' := zaa (show W.cell? ⟨w.heap.size + 1 + 1, 4, none⟩ = some (.int .i64 2) from cell_of_row _ _ 4 _ _ _ hb2)
    have HXW := q_ hx
    have HB0 := q_ hb0
    have HB1 := q_ hb1
    clear hb0 hb1 hb2 hsz hx
    subst hW
    go_enter Tryz.func36, Tryz.ntmps36
    go_wp2_with fail
    refine zae (by kernel_rfl) (by kernel_rfl) ?_
    iterate 18 (go_big_quiet_step (fail))
    refine wpQuiet_nil ?_
    intro w4 hw4
    have HX4 := q_ (HXW.out.trans hw4)
    have HV4 := q_ ((hw4.block _ (zad HB0.out)).trans HB0.out)
    have HT4 := q_ ((hw4.block _ (zad HB1.out)).trans HB1.out)
    clear hw4 g0 g1 g2 g2' HXW HB0 HB1
    have d0 : w4.cell? ⟨w.heap.size + 1, 0, none⟩ = some (.int .i64 4) := cell_of_row _ _ 0 _ _ _ HT4.out
    go_wp2_with fail
    go_ret
    exact ⟨zal (by rw [HT.out]; simp), HX4.out⟩
   ·have ek : (k1 != 2) = true := by simpa using hk
    have HK := q_ hk
    clear hk
    obtain ⟨W, hW⟩ : ∃ W, W = ((w.alloc (.cells #[.int .i64 k1, .bool b1, .int .i64 n1, .string t1, .string ut1, .string ui1, .slice A1 items.length c1, .slice A2 names.length c2] 46)).alloc (.cells #[.int .i64 4, .string tn, .slice tA elem.length ta, .slice tB attrs.length tb] 53)).alloc (.cells #[.int .i64 0, .int .i64 1, .int .i64 1, .int .i64 1, .int .i64 2, .int .i64 3, .int .i64 4, .int .i64 5, .int .i64 6] 3) := ⟨_, rfl⟩
    obtain ⟨hb0, hb1, hb2, hsz, hx⟩ := zcj w (.cells #[.int .i64 k1, .bool b1, .int .i64 n1, .string t1, .string ut1, .string ui1, .slice A1 items.length c1, .slice A2 names.length c2] 46) (.cells #[.int .i64 4, .string tn, .slice tA elem.length ta, .slice tB attrs.length tb] 53) (.cells #[.int .i64 0, .int .i64 1, .int .i64 1, .int .i64 1, .int .i64 2, .int .i64 3, .int .i64 4, .int .i64 5, .int .i64 6] 3)
    rw [← hW] at hb0 hb1 hb2 hsz hx
    have g0 := zaa (show W.cell? ⟨w.heap.size, 0, none⟩ = some (.int .i64 k1) from cell_of_row _ _ 0 _ _ _ hb0)
    have g1 := zaa (show W.cell? ⟨w.heap.size + 1, 0, none⟩ = some (.int .i64 4) from cell_of_row _ _ 0 _ _ _ hb1)
    have g2 := zaa (show W.cell? ⟨w.heap.size + 2, 4, none⟩ = some (.int .i64 2) from cell_of_row _ _ 4 _ _ _ hb2)
    have g2' := zaa (show W.cell? ⟨w.heap.size + 1 + 1, 4, none⟩ = some (.int .i64 2) from cell_of_row _ _ 4 _ _ _ hb2)
    have HXW := q_ hx
    have HB0 := q_ hb0
    have HB1 := q_ hb1
    clear hb0 hb1 hb2 hsz hx
    subst hW
    go_enter Tryz.func36, Tryz.ntmps36
    go_wp2_with fail
    refine zae (by kernel_rfl) (by kernel_rfl) ?_
    iterate 18 (go_big_quiet_step (fail))
    refine wpQuiet_nil ?_
    intro w4 hw4
    have HX4 := q_ (HXW.out.trans hw4)
    have HV4 := q_ ((hw4.block _ (zad HB0.out)).trans HB0.out)
    have HT4 := q_ ((hw4.block _ (zad HB1.out)).trans HB1.out)
    clear hw4 g0 g1 g2 g2' HXW HB0 HB1
    go_wp2_with fail
    go_ret
    exact ⟨zal (by rw [HT.out]; simp [HK.out]), HX4.out⟩
  by_cases q5 : tk = 5
  ·subst q5
   by_cases hk : k1 = 3
   ·subst hk
    obtain ⟨W, hW⟩ : ∃ W, W = ((w.alloc (.cells #[.int .i64 3, .bool b1, .int .i64 n1, .string t1, .string ut1, .string ui1, .slice A1 items.length c1, .slice A2 names.length c2] 46)).alloc (.cells #[.int .i64 5, .string tn, .slice tA elem.length ta, .slice tB attrs.length tb] 53)).alloc (.cells #[.int .i64 0, .int .i64 1, .int .i64 1, .int .i64 1, .int .i64 2, .int .i64 3, .int .i64 4, .int .i64 5, .int .i64 6] 3) := ⟨_, rfl⟩
    obtain ⟨hb0, hb1, hb2, hsz, hx⟩ := zcj w (.cells #[.int .i64 3, .bool b1, .int .i64 n1, .string t1, .string ut1, .string ui1, .slice A1 items.length c1, .slice A2 names.length c2] 46) (.cells #[.int .i64 5, .string tn, .slice tA elem.length ta, .slice tB attrs.length tb] 53) (.cells #[.int .i64 0, .int .i64 1, .int .i64 1, .int .i64 1, .int .i64 2, .int .i64 3, .int .i64 4, .int .i64 5, .int .i64 6] 3)
    rw [← hW] at hb0 hb1 hb2 hsz hx
    have g0 := zaa (show W.cell? ⟨w.heap.size, 0, none⟩ = some (.int .i64 3) from cell_of_row _ _ 0 _ _ _ hb0)
    have g1 := zaa (show W.cell? ⟨w.heap.size + 1, 0, none⟩ = some (.int .i64 5) from cell_of_row _ _ 0 _ _ _ hb1)
    have g2 := zaa (show W.cell? ⟨w.heap.size + 2, 5, none⟩ = some (.int .i64 3) from cell_of_row _ _ 5 _ _ _ hb2)
    have g2' := zaa (show W.cell? ⟨w.heap.size + 1 + 1, 5, none⟩ = some (.int .i64 3) from cell_of_row _ _ 5 _ _ _ hb2)
    have HXW := q_ hx
    have HB0 := q_ hb0
    have HB1 := q_ hb1
    clear hb0 hb1 hb2 hsz hx
    subst hW
    go_enter Tryz.func36, Tryz.ntmps36
    go_wp2_with fail
    refine zae (by kernel_rfl) (by kernel_rfl) ?_
    iterate 18 (go_big_quiet_step (fail))
    refine wpQuiet_nil ?_
    intro w4 hw4
    have HX4 := q_ (HXW.out.trans hw4)
    have HV4 := q_ ((hw4.block _ (zad HB0.out)).trans HB0.out)
    have HT4 := q_ ((hw4.block _ (zad HB1.out)).trans HB1.out)
    clear hw4 g0 g1 g2 g2' HXW HB0 HB1
    have d0 : w4.cell? ⟨w.heap.size + 1, 0, none⟩ = some (.int .i64 5) := cell_of_row _ _ 0 _ _ _ HT4.out
    go_wp2_with fail
    go_ret
    exact ⟨zal (by rw [HT.out]; simp), HX4.out⟩
   ·have ek : (k1 != 3) = true := by simpa using hk
    have HK := q_ hk
    clear hk
    obtain ⟨W, hW⟩ : ∃ W, W = ((w.alloc (.cells #[.int .i64 k1, .bool b1, .int .i64 n1, .string t1, .string ut1, .string ui1, .slice A1 items.length c1, .slice A2 names.length c2] 46)).alloc (.cells #[.int .i64 5, .string tn, .slice tA elem.length ta, .slice tB attrs.length tb] 53)).alloc (.cells #[.int .i64 0, .int .i64 1, .int .i64 1, .int .i64 1, .int .i64 2, .int .i64 3, .int .i64 4, .int .i64 5, .int .i64 6] 3) := ⟨_, rfl⟩
    obtain ⟨hb0, hb1, hb2, hsz, hx⟩ := zcj w (.cells #[.int .i64 k1, .bool b1, .int .i64 n1, .string t1, .string ut1, .string ui1, .slice A1 items.length c1, .slice A2 names.length c2] 46) (.cells #[.int .i64 5, .string tn, .slice tA elem.length ta, .slice tB attrs.length tb] 53) (.cells #[.int .i64 0, .int .i64 1, .int .i64 1, .int .i64 1, .int .i64 2, .int .i64 3, .int .i64 4, .int .i64 5, .int .i64 6] 3)
    rw [← hW] at hb0 hb1 hb2 hsz hx
    have g0 := zaa (show W.cell? ⟨w.heap.size, 0, none⟩ = some (.int .i64 k1) from cell_of_row _ _ 0 _ _ _ hb0)
    have g1 := zaa (show W.cell? ⟨w.heap.size + 1, 0, none⟩ = some (.int .i64 5) from cell_of_row _ _ 0 _ _ _ hb1)
    have g2 := zaa (show W.cell? ⟨w.heap.size + 2, 5, none⟩ = some (.int .i64 3) from cell_of_row _ _ 5 _ _ _ hb2)
    have g2' := zaa (show W.cell? ⟨w.heap.size + 1 + 1, 5, none⟩ = some (.int .i64 3) from cell_of_row _ _ 5 _ _ _ hb2)
    have HXW := q_ hx
    have HB0 := q_ hb0
    have HB1 := q_ hb1
    clear hb0 hb1 hb2 hsz hx
    subst hW
    go_enter Tryz.func36, Tryz.ntmps36
    go_wp2_with fail
    refine zae (by kernel_rfl) (by kernel_rfl) ?_
    iterate 18 (go_big_quiet_step (fail))
    refine wpQuiet_nil ?_
    intro w4 hw4
    have HX4 := q_ (HXW.out.trans hw4)
    have HV4 := q_ ((hw4.block _ (zad HB0.out)).trans HB0.out)
    have HT4 := q_ ((hw4.block _ (zad HB1.out)).trans HB1.out)
    clear hw4 g0 g1 g2 g2' HXW HB0 HB1
    go_wp2_with fail
    go_ret
    exact ⟨zal (by rw [HT.out]; simp [HK.out]), HX4.out⟩
  by_cases q6 : tk = 6
  ·subst q6
   by_cases hk : k1 = 4
   ·subst hk
    obtain ⟨W, hW⟩ : ∃ W, W = ((w.alloc (.cells #[.int .i64 4, .bool b1, .int .i64 n1, .string t1, .string ut1, .string ui1, .slice A1 items.length c1, .slice A2 names.length c2] 46)).alloc (.cells #[.int .i64 6, .string tn, .slice tA elem.length ta, .slice tB attrs.length tb] 53)).alloc (.cells #[.int .i64 0, .int .i64 1, .int .i64 1, .int .i64 1, .int .i64 2, .int .i64 3, .int .i64 4, .int .i64 5, .int .i64 6] 3) := ⟨_, rfl⟩
    obtain ⟨hb0, hb1, hb2, hsz, hx⟩ := zcj w (.cells #[.int .i64 4, .bool b1, .int .i64 n1, .string t1, .string ut1, .string ui1, .slice A1 items.length c1, .slice A2 names.length c2] 46) (.cells #[.int .i64 6, .string tn, .slice tA elem.length ta, .slice tB attrs.length tb] 53) (.cells #[.int .i64 0, .int .i64 1, .int .i64 1, .int .i64 1, .int .i64 2, .int .i64 3, .int .i64 4, .int .i64 5, .int .i64 6] 3)
    rw [← hW] at hb0 hb1 hb2 hsz hx
    have g0 := zaa (show W.cell? ⟨w.heap.size, 0, none⟩ = some (.int .i64 4) from cell_of_row _ _ 0 _ _ _ hb0)
    have g1 := zaa (show W.cell? ⟨w.heap.size + 1, 0, none⟩ = some (.int .i64 6) from cell_of_row _ _ 0 _ _ _ hb1)
    have g2 := zaa (show W.cell? ⟨w.heap.size + 2, 6, none⟩ = some (.int .i64 4) from cell_of_row _ _ 6 _ _ _ hb2)
    have g2' := zaa (show W.cell? ⟨w.heap.size + 1 + 1, 6, none⟩ = some (.int .i64 4) from cell_of_row _ _ 6 _ _ _ hb2)
    have HXW := q_ hx
    have HB0 := q_ hb0
    have HB1 := q_ hb1
    clear hb0 hb1 hb2 hsz hx
    subst hW
    go_enter Tryz.func36, Tryz.ntmps36
    go_wp2_with fail
    refine zae (by kernel_rfl) (by kernel_rfl) ?_
    iterate 18 (go_big_quiet_step (fail))
    refine wpQuiet_nil ?_
    intro w4 hw4
    have HX4 := q_ (HXW.out.trans hw4)
    have HV4 := q_ ((hw4.block _ (zad HB0.out)).trans HB0.out)
    have HT4 := q_ ((hw4.block _ (zad HB1.out)).trans HB1.out)
    clear hw4 g0 g1 g2 g2' HXW HB0 HB1
    have d0 : w4.cell? ⟨w.heap.size + 1, 0, none⟩ = some (.int .i64 6) := cell_of_row _ _ 0 _ _ _ HT4.out
    have d1 : w4.cell? ⟨w.heap.size, 4, none⟩ = some (.string ut1) := cell_of_row _ _ 4 _ _ _ HV4.out
    have d2 : w4.cell? ⟨w.heap.size + 1, 1, none⟩ = some (.string tn) := cell_of_row _ _ 1 _ _ _ HT4.out
    go_wp2_with fail
    go_ret
    exact ⟨zal (by rw [HT.out]; simp [zdf]), HX4.out⟩
   ·have ek : (k1 != 4) = true := by simpa using hk
    have HK := q_ hk
    clear hk
    obtain ⟨W, hW⟩ : ∃ W, W = ((w.alloc (.cells #[.int .i64 k1, .bool b1, .int .i64 n1, .string t1, .string ut1, .string ui1, .slice A1 items.length c1, .slice A2 names.length c2] 46)).alloc (.cells #[.int .i64 6, .string tn, .slice tA elem.length ta, .slice tB attrs.length tb] 53)).alloc (.cells #[.int .i64 0, .int .i64 1, .int .i64 1, .int .i64 1, .int .i64 2, .int .i64 3, .int .i64 4, .int .i64 5, .int .i64 6] 3) := ⟨_, rfl⟩
    obtain ⟨hb0, hb1, hb2, hsz, hx⟩ := zcj w (.cells #[.int .i64 k1, .bool b1, .int .i64 n1, .string t1, .string ut1, .string ui1, .slice A1 items.length c1, .slice A2 names.length c2] 46) (.cells #[.int .i64 6, .string tn, .slice tA elem.length ta, .slice tB attrs.length tb] 53) (.cells #[.int .i64 0, .int .i64 1, .int .i64 1, .int .i64 1, .int .i64 2, .int .i64 3, .int .i64 4, .int .i64 5, .int .i64 6] 3)
    rw [← hW] at hb0 hb1 hb2 hsz hx
    have g0 := zaa (show W.cell? ⟨w.heap.size, 0, none⟩ = some (.int .i64 k1) from cell_of_row _ _ 0 _ _ _ hb0)
    have g1 := zaa (show W.cell? ⟨w.heap.size + 1, 0, none⟩ = some (.int .i64 6) from cell_of_row _ _ 0 _ _ _ hb1)
    have g2 := zaa (show W.cell? ⟨w.heap.size + 2, 6, none⟩ = some (.int .i64 4) from cell_of_row _ _ 6 _ _ _ hb2)
    have g2' := zaa (show W.cell? ⟨w.heap.size + 1 + 1, 6, none⟩ = some (.int .i64 4) from cell_of_row _ _ 6 _ _ _ hb2)
    have HXW := q_ hx
    have HB0 := q_ hb0
    have HB1 := q_ hb1
    clear hb0 hb1 hb2 hsz hx
    subst hW
    go_enter Tryz.func36, Tryz.ntmps36
    go_wp2_with fail
    refine zae (by kernel_rfl) (by kernel_rfl) ?_
    iterate 18 (go_big_quiet_step (fail))
    refine wpQuiet_nil ?_
    intro w4 hw4
    have HX4 := q_ (HXW.out.trans hw4)
    have HV4 := q_ ((hw4.block _ (zad HB0.out)).trans HB0.out)
    have HT4 := q_ ((hw4.block _ (zad HB1.out)).trans HB1.out)
    clear hw4 g0 g1 g2 g2' HXW HB0 HB1
    go_wp2_with fail
    go_ret
    exact ⟨zal (by rw [HT.out]; simp [HK.out]), HX4.out⟩
  by_cases q7 : tk = 7
  ·subst q7
   by_cases hk : k1 = 5
   ·subst hk
    obtain ⟨W, hW⟩ : ∃ W, W = ((w.alloc (.cells #[.int .i64 5, .bool b1, .int .i64 n1, .string t1, .string ut1, .string ui1, .slice A1 items.length c1, .slice A2 names.length c2] 46)).alloc (.cells #[.int .i64 7, .string tn, .slice tA elem.length ta, .slice tB attrs.length tb] 53)).alloc (.cells #[.int .i64 0, .int .i64 1, .int .i64 1, .int .i64 1, .int .i64 2, .int .i64 3, .int .i64 4, .int .i64 5, .int .i64 6] 3) := ⟨_, rfl⟩
    obtain ⟨hb0, hb1, hb2, hsz, hx⟩ := zcj w (.cells #[.int .i64 5, .bool b1, .int .i64 n1, .string t1, .string ut1, .string ui1, .slice A1 items.length c1, .slice A2 names.length c2] 46) (.cells #[.int .i64 7, .string tn, .slice tA elem.length ta, .slice tB attrs.length tb] 53) (.cells #[.int .i64 0, .int .i64 1, .int .i64 1, .int .i64 1, .int .i64 2, .int .i64 3, .int .i64 4, .int .i64 5, .int .i64 6] 3)
    rw [← hW] at hb0 hb1 hb2 hsz hx
    have g0 := zaa (show W.cell? ⟨w.heap.size, 0, none⟩ = some (.int .i64 5) from cell_of_row _ _ 0 _ _ _ hb0)
    have g1 := zaa (show W.cell? ⟨w.heap.size + 1, 0, none⟩ = some (.int .i64 7) from cell_of_row _ _ 0 _ _ _ hb1)
    have g2 := zaa (show W.cell? ⟨w.heap.size + 2, 7, none⟩ = some (.int .i64 5) from cell_of_row _ _ 7 _ _ _ hb2)
    have g2' := zaa (show W.cell? ⟨w.heap.size + 1 + 1, 7, none⟩ = some (.int .i64 5) from cell_of_row _ _ 7 _ _ _ hb2)
    have HXW := q_ hx
    have HB0 := q_ hb0
    have HB1 := q_ hb1
    clear hb0 hb1 hb2 hsz hx
    subst hW
    go_enter Tryz.func36, Tryz.ntmps36
    go_wp2_with fail
    refine zae (by kernel_rfl) (by kernel_rfl) ?_
    iterate 18 (go_big_quiet_step (fail))
    refine wpQuiet_nil ?_
    intro w4 hw4
    have HX4 := q_ (HXW.out.trans hw4)
    have HV4 := q_ ((hw4.block _ (zad HB0.out)).trans HB0.out)
    have HT4 := q_ ((hw4.block _ (zad HB1.out)).trans HB1.out)
    clear hw4 g0 g1 g2 g2' HXW HB0 HB1
    have d0 : w4.cell? ⟨w.heap.size + 1, 0, none⟩ = some (.int .i64 7) := cell_of_row _ _ 0 _ _ _ HT4.out
    obtain ⟨t', ht'⟩ : ∃ t', elem = [t'] := List.length_eq_one_iff.1 (HO.out.1 (by trivial))
    subst ht'
    obtain ⟨tb', to, etA, hSt, htrow⟩ := HTr.out (by simp)
    subst etA
    obtain ⟨ct, hct, hta'⟩ := htrow 0 t' rfl
    obtain ⟨uA, ua, uB, ub, rfl, _⟩ := Ty.At.parts hta'
    have hct : CellsAt w tb' to [.int .i64 t'.kind, .string t'.name, .slice uA t'.elem.length ua, .slice uB t'.attrs.length ub] := by simpa [tyR] using hct
    have HCt := q_ hct
    have HTa' := q_ hta'
    have HSt := q_ hSt
    have HT7 : Hid (res = items.all fun x => t'.takes x) := q_ (by rw [HT.out]; simp [Ty.takesOne])
    clear hct hta' htrow hSt HT
    have d1 : w4.cell? ⟨w.heap.size, 6, none⟩ = some (.slice A1 items.length c1) := cell_of_row _ _ 6 _ _ _ HV4.out
    go_wp2_with fail
    clear d0 d1
    go_loopw [6] (fun c' wr => ∃ j : Nat, j ≤ items.length ∧ c' = .int .i64 j ∧ Hid (Ext w wr) ∧ Hid (wr.heap[w.heap.size]? = some (.cells #[.int .i64 5, .bool b1, .int .i64 n1, .string t1, .string ut1, .string ui1, .slice A1 items.length c1, .slice A2 names.length c2] 46 (0, 0))) ∧ Hid (wr.heap[w.heap.size + 1]? = some (.cells #[.int .i64 7, .string tn, .slice (some ⟨tb', to, none⟩) 1 ta, .slice tB attrs.length tb] 53 (0, 0))) ∧
     Hid (∀ i x, i < j → items[i]? = some x → t'.takes x = true)) (fun c' _ => items.length - (intOf c').toNat)
    case atStart => exact ⟨0, Nat.zero_le _, rfl, HX4, HV4, HT4, q_ fun _ _ h => by omega⟩
    case round =>
     clear HX4 HV4 HT4
     obtain ⟨j, hj, rfl, HX, HV, HTy, HA⟩ := hrel
     have d1 : wr.cell? ⟨w.heap.size, 6, none⟩ = some (.slice A1 items.length c1) := cell_of_row _ _ 6 _ _ _ HV.out
     by_cases hlt : j < items.length
     ·obtain ⟨x, hx⟩ : ∃ x, items[j]? = some x := ⟨_, List.getElem?_eq_getElem hlt⟩
      obtain ⟨ib, io, rfl, hSi, hirow⟩ := HIr.out (by omega)
      obtain ⟨cx, _, hcx, hxa⟩ := hirow.get hx
      obtain ⟨xk, xb, xn, xt, xut, xui, xA, xl, xc, xB, xm, xd, rfl⟩ := hxa.shape
      have hcx := hcx.alike hSi (Alike.of_ext HX.out HS.out)
      have hct := HCt.out.alike HSt.out (Alike.of_ext HX.out HS.out)
      have i0 := zaa (show wr.cell? ⟨ib, io + j * 8, none⟩ = some (.int .i64 xk) from hcx 0 _ rfl)
      have i1 := zaa (show wr.cell? ⟨ib, io + j * 8 + 1, none⟩ = some (.bool xb) from hcx 1 _ rfl)
      have i2 := zaa (show wr.cell? ⟨ib, io + j * 8 + 2, none⟩ = some (.int .i64 xn) from hcx 2 _ rfl)
      have i3 := zaa (show wr.cell? ⟨ib, io + j * 8 + 3, none⟩ = some (.string xt) from hcx 3 _ rfl)
      have i4 := zaa (show wr.cell? ⟨ib, io + j * 8 + 4, none⟩ = some (.string xut) from hcx 4 _ rfl)
      have i5 := zaa (show wr.cell? ⟨ib, io + j * 8 + 5, none⟩ = some (.string xui) from hcx 5 _ rfl)
      have i6 := zaa (show wr.cell? ⟨ib, io + j * 8 + 6, none⟩ = some (.slice xA xl xc) from hcx 6 _ rfl)
      have i7 := zaa (show wr.cell? ⟨ib, io + j * 8 + 7, none⟩ = some (.slice xB xm xd) from hcx 7 _ rfl)
      have t0 := zaa (show wr.cell? ⟨tb', to, none⟩ = some (.int .i64 t'.kind) from hct 0 _ rfl)
      have t1' := zaa (show wr.cell? ⟨tb', to + 1, none⟩ = some (.string t'.name) from hct 1 _ rfl)
      have t2 := zaa (show wr.cell? ⟨tb', to + 2, none⟩ = some (.slice uA t'.elem.length ua) from hct 2 _ rfl)
      have t3 := zaa (show wr.cell? ⟨tb', to + 3, none⟩ = some (.slice uB t'.attrs.length ub) from hct 3 _ rfl)
      have f0 := zaa d1
      have f1 := zaa (show wr.cell? ⟨w.heap.size + 1, 2, none⟩ = some (.slice (some ⟨tb', to, none⟩) 1 ta) from cell_of_row _ _ 2 _ _ _ HTy.out)
      obtain ⟨rb, hrb⟩ : ∃ rb, t'.takes x = rb := ⟨_, rfl⟩
      have HRb := q_ hrb
      have KV : Hid (∀ X, Ext wr X → Calls Tryz.prog 36 #[.agg #[.int .i64 xk, .bool xb, .int .i64 xn, .string xt, .string xut, .string xui, .slice xA xl xc, .slice xB xm xd], .agg #[.int .i64 t'.kind, .string t'.name, .slice uA t'.elem.length ua, .slice uB t'.attrs.length ub]] X fun e w' => e = .returned (.bool rb) ∧ Ext X w') := q_ fun X hX => by
       have hal := Alike.of_ext (HX.out.trans hX) HS.out
       have h := IH.out x (List.mem_of_getElem? hx) t' (HO.out.2.1 t' (by simp)) S X _ _ (fun b hb => Nat.lt_of_lt_of_le (HS.out b hb) (HX.out.trans hX).size) (hxa.alike hal) (Ty.At.alike hal _ _ HTa'.out)
       rw [hrb] at h
       exact h
      have Hx := q_ hx
      clear hirow hSi hcx hct hxa hx hrb
      go_wp2_with fail
      refine zae (by kernel_rfl) (by kernel_rfl) ?_
      iterate 9 (go_big_quiet_step (fail))
      go_big_quiet_step ((go_at_call 36; exact zan KV.out _ _))
      iterate 1 (go_big_quiet_step (fail))
      refine wpQuiet_nil ?_
      intro w5 hw5
      have HX5 := q_ (HX.out.trans hw5)
      have HV5 := q_ ((hw5.block _ (zad HV.out)).trans HV.out)
      have HTy5 := q_ ((hw5.block _ (zad HTy.out)).trans HTy.out)
      clear hw5 i0 i1 i2 i3 i4 i5 i6 i7 t0 t1' t2 t3 f0 f1 d1
      cases rb
      ·go_wp2_with fail
       go_ret
       exact ⟨zal (by
        rw [HT7.out, eq_comm, Bool.eq_false_iff]
        intro h
        rw [List.all_eq_true] at h
        have := h x (List.mem_of_getElem? Hx.out)
        rw [HRb.out] at this
        cases this), HX5.out⟩
      ·go_wp2_with fail
       go_roundw
       case rel => exact ⟨j + 1, by omega, by go_num, HX5, HV5, HTy5, q_ fun i y hi hy => by
        by_cases hij : i = j
        ·subst hij; rw [Hx.out] at hy; cases hy; exact HRb.out
        ·exact HA.out i y (by omega) hy⟩
       case measure => simp [intOf]; omega
     ·have hje : j = items.length := by omega
      subst hje
      have d0 : wr.cell? ⟨w.heap.size + 1, 0, none⟩ = some (.int .i64 7) := cell_of_row _ _ 0 _ _ _ HTy.out
      go_wp2_with fail
      go_ret
      exact ⟨zal (by
       rw [HT7.out, eq_comm, List.all_eq_true]
       intro x hx
       obtain ⟨i, hi⟩ := List.mem_iff_getElem?.1 hx
       exact HA.out i x (List.getElem?_eq_some_iff.1 hi).1 hi), HX.out⟩
   ·have ek : (k1 != 5) = true := by simpa using hk
    have HK := q_ hk
    clear hk
    obtain ⟨W, hW⟩ : ∃ W, W = ((w.alloc (.cells #[.int .i64 k1, .bool b1, .int .i64 n1, .string t1, .string ut1, .string ui1, .slice A1 items.length c1, .slice A2 names.length c2] 46)).alloc (.cells #[.int .i64 7, .string tn, .slice tA elem.length ta, .slice tB attrs.length tb] 53)).alloc (.cells #[.int .i64 0, .int .i64 1, .int .i64 1, .int .i64 1, .int .i64 2, .int .i64 3, .int .i64 4, .int .i64 5, .int .i64 6] 3) := ⟨_, rfl⟩
    obtain ⟨hb0, hb1, hb2, hsz, hx⟩ := zcj w (.cells #[.int .i64 k1, .bool b1, .int .i64 n1, .string t1, .string ut1, .string ui1, .slice A1 items.length c1, .slice A2 names.length c2] 46) (.cells #[.int .i64 7, .string tn, .slice tA elem.length ta, .slice tB attrs.length tb] 53) (.cells #[.int .i64 0, .int .i64 1, .int .i64 1, .int .i64 1, .int .i64 2, .int .i64 3, .int .i64 4, .int .i64 5, .int .i64 6] 3)
    rw [← hW] at hb0 hb1 hb2 hsz hx
    have g0 := zaa (show W.cell? ⟨w.heap.size, 0, none⟩ = some (.int .i64 k1) from cell_of_row _ _ 0 _ _ _ hb0)
    have g1 := zaa (show W.cell? ⟨w.heap.size + 1, 0, none⟩ = some (.int .i64 7) from cell_of_row _ _ 0 _ _ _ hb1)
    have g2 := zaa (show W.cell? ⟨w.heap.size + 2, 7, none⟩ = some (.int .i64 5) from cell_of_row _ _ 7 _ _ _ hb2)
    have g2' := zaa (show W.cell? ⟨w.heap.size + 1 + 1, 7, none⟩ = some (.int .i64 5) from cell_of_row _ _ 7 _ _ _ hb2)
    have HXW := q_ hx
    have HB0 := q_ hb0
    have HB1 := q_ hb1
    clear hb0 hb1 hb2 hsz hx
    subst hW
    go_enter Tryz.func36, Tryz.ntmps36
    go_wp2_with fail
    refine zae (by kernel_rfl) (by kernel_rfl) ?_
    iterate 18 (go_big_quiet_step (fail))
    refine wpQuiet_nil ?_
    intro w4 hw4
    have HX4 := q_ (HXW.out.trans hw4)
    have HV4 := q_ ((hw4.block _ (zad HB0.out)).trans HB0.out)
    have HT4 := q_ ((hw4.block _ (zad HB1.out)).trans HB1.out)
    clear hw4 g0 g1 g2 g2' HXW HB0 HB1
    go_wp2_with fail
    go_ret
    exact ⟨zal (by rw [HT.out]; simp [HK.out]), HX4.out⟩
  by_cases q8 : tk = 8
  ·subst q8
   by_cases hk : k1 = 6
   ·subst hk
    obtain ⟨W, hW⟩ : ∃ W, W = ((w.alloc (.cells #[.int .i64 6, .bool b1, .int .i64 n1, .string t1, .string ut1, .string ui1, .slice A1 items.length c1, .slice A2 names.length c2] 46)).alloc (.cells #[.int .i64 8, .string tn, .slice tA elem.length ta, .slice tB attrs.length tb] 53)).alloc (.cells #[.int .i64 0, .int .i64 1, .int .i64 1, .int .i64 1, .int .i64 2, .int .i64 3, .int .i64 4, .int .i64 5, .int .i64 6] 3) := ⟨_, rfl⟩
    obtain ⟨hb0, hb1, hb2, hsz, hx⟩ := zcj w (.cells #[.int .i64 6, .bool b1, .int .i64 n1, .string t1, .string ut1, .string ui1, .slice A1 items.length c1, .slice A2 names.length c2] 46) (.cells #[.int .i64 8, .string tn, .slice tA elem.length ta, .slice tB attrs.length tb] 53) (.cells #[.int .i64 0, .int .i64 1, .int .i64 1, .int .i64 1, .int .i64 2, .int .i64 3, .int .i64 4, .int .i64 5, .int .i64 6] 3)
    rw [← hW] at hb0 hb1 hb2 hsz hx
    have g0 := zaa (show W.cell? ⟨w.heap.size, 0, none⟩ = some (.int .i64 6) from cell_of_row _ _ 0 _ _ _ hb0)
    have g1 := zaa (show W.cell? ⟨w.heap.size + 1, 0, none⟩ = some (.int .i64 8) from cell_of_row _ _ 0 _ _ _ hb1)
    have g2 := zaa (show W.cell? ⟨w.heap.size + 2, 8, none⟩ = some (.int .i64 6) from cell_of_row _ _ 8 _ _ _ hb2)
    have g2' := zaa (show W.cell? ⟨w.heap.size + 1 + 1, 8, none⟩ = some (.int .i64 6) from cell_of_row _ _ 8 _ _ _ hb2)
    have HXW := q_ hx
    have HB0 := q_ hb0
    have HB1 := q_ hb1
    clear hb0 hb1 hb2 hsz hx
    subst hW
    go_enter Tryz.func36, Tryz.ntmps36
    go_wp2_with fail
    refine zae (by kernel_rfl) (by kernel_rfl) ?_
    iterate 18 (go_big_quiet_step (fail))
    refine wpQuiet_nil ?_
    intro w4 hw4
    have HX4 := q_ (HXW.out.trans hw4)
    have HV4 := q_ ((hw4.block _ (zad HB0.out)).trans HB0.out)
    have HT4 := q_ ((hw4.block _ (zad HB1.out)).trans HB1.out)
    clear hw4 g0 g1 g2 g2' HXW HB0 HB1
    have d0 : w4.cell? ⟨w.heap.size + 1, 0, none⟩ = some (.int .i64 8) := cell_of_row _ _ 0 _ _ _ HT4.out
    have HNl := q_ (show names.length = items.length from HRec.out (by trivial))
    have HT8 : Hid (res = ((names.zip items).all (fun p => Atr.takes attrs p.1 p.2) && attrs.all fun a => a.opt || names.any fun n => decide (n = a.name))) := q_ (by rw [HT.out]; simp [recB])
    clear HT
    have d1 : w4.cell? ⟨w.heap.size, 7, none⟩ = some (.slice A2 names.length c2) := cell_of_row _ _ 7 _ _ _ HV4.out
    go_wp2_with fail
    clear d0 d1
    go_loopw [8] (fun c' wr => ∃ j : Nat, j ≤ names.length ∧ c' = .int .i64 j ∧ Hid (Ext w wr) ∧ Hid (wr.heap[w.heap.size]? = some (.cells #[.int .i64 6, .bool b1, .int .i64 n1, .string t1, .string ut1, .string ui1, .slice A1 items.length c1, .slice A2 names.length c2] 46 (0, 0))) ∧ Hid (wr.heap[w.heap.size + 1]? = some (.cells #[.int .i64 8, .string tn, .slice tA elem.length ta, .slice tB attrs.length tb] 53 (0, 0))) ∧
     Hid (∀ i n x, i < j → names[i]? = some n → items[i]? = some x → Atr.takes attrs n x = true)) (fun c' _ => names.length - (intOf c').toNat)
    case atStart => exact ⟨0, Nat.zero_le _, rfl, HX4, HV4, HT4, q_ fun _ _ _ h => by omega⟩
    case round =>
     clear HX4 HV4 HT4
     obtain ⟨j, hj, rfl, HX, HV, HTy, HA⟩ := hrel
     have d1 : wr.cell? ⟨w.heap.size, 7, none⟩ = some (.slice A2 names.length c2) := cell_of_row _ _ 7 _ _ _ HV.out
     by_cases hlt : j < names.length
     ·obtain ⟨n, hn⟩ : ∃ n, names[j]? = some n := ⟨_, List.getElem?_eq_getElem hlt⟩
      obtain ⟨x, hx⟩ : ∃ x, items[j]? = some x := ⟨_, List.getElem?_eq_getElem (by have := HNl.out; omega)⟩
      have hil : j < items.length := (List.getElem?_eq_some_iff.1 hx).1
      obtain ⟨nb, no, rfl, hSn, hnrow⟩ := HNr.out (by omega)
      have f0 := zaa d1
      have f1 := zaa (show wr.cell? ⟨nb, no + j, none⟩ = some (.string n) from (hnrow.alike hSn (Alike.of_ext HX.out HS.out)) j _ (by simp [hn]))
      have f2 := zaa (show wr.cell? ⟨w.heap.size + 1, 3, none⟩ = some (.slice tB attrs.length tb) from cell_of_row _ _ 3 _ _ _ HTy.out)
      have KA : Hid (∀ X, Ext wr X → Calls Tryz.prog 68 #[.slice tB attrs.length tb, .string n] X fun e w' => e = .returned (.int .i64 (pos (zcd attrs n))) ∧ Ext X w') := q_ fun X hX =>
       (attrR_ok S attrs _ n X (HTt.out.alike (Alike.of_ext (HX.out.trans hX) HS.out))).mono fun e w' ⟨he, hw⟩ => ⟨he, hw ▸ Ext.refl _⟩
      have Hn := q_ hn
      have Hx := q_ hx
      clear hnrow hSn hn hx
      go_wp2_with fail
      refine zae (by kernel_rfl) (by kernel_rfl) ?_
      iterate 7 (go_big_quiet_step (fail))
      go_big_quiet_step ((go_at_call 68; exact zan KA.out _ _))
      iterate 1 (go_big_quiet_step (fail))
      refine wpQuiet_nil ?_
      intro w5 hw5
      have HX5 := q_ (HX.out.trans hw5)
      have HV5 := q_ ((hw5.block _ (zad HV.out)).trans HV.out)
      have HTy5 := q_ ((hw5.block _ (zad HTy.out)).trans HTy.out)
      clear hw5 f0 f1 f2 d1 KA
      obtain ⟨ix, hix⟩ : ∃ ix, zcd attrs n = ix := ⟨_, rfl⟩
      rw [hix]
      have HIx := q_ hix
      clear hix
      cases ix with
      | none =>
       simp only [pos]
       go_wp2_with fail
       go_ret
       exact ⟨zal (by rw [HT8.out, zip_not Hn.out Hx.out (takes_none HIx.out)]; rfl), HX5.out⟩
      | some ia =>
       obtain ⟨a, ha, _⟩ := zew HIx.out
       have hial : ia < attrs.length := (List.getElem?_eq_some_iff.1 ha).1
       obtain ⟨ab, ao, eab, hSa, harow⟩ := HTr8.out (by omega)
       subst eab
       obtain ⟨ca, hca, hat⟩ := harow ia a ha
       obtain ⟨aA, al, ac, aB, am, ad, rfl, _, hty⟩ := hat.shape
       have hca : CellsAt w5 ab (ao + ia * 6) [.string a.name, .int .i64 a.ty.kind, .string a.ty.name, .slice aA al ac, .slice aB am ad, .bool a.opt] := hca.alike hSa (Alike.of_ext HX5.out HS.out)
       obtain ⟨ib, io, eib, hSi, hirow⟩ := HIr.out (by omega)
       subst eib
       obtain ⟨cx, _, hcx, hxa⟩ := hirow.get Hx.out
       obtain ⟨xk, xb, xn, xt, xut, xui, xA, xl, xc, xB, xm, xd, rfl⟩ := hxa.shape
       have hcx := hcx.alike hSi (Alike.of_ext HX5.out HS.out)
       have i0 := zaa (show w5.cell? ⟨ib, io + j * 8, none⟩ = some (.int .i64 xk) from hcx 0 _ rfl)
       have i1 := zaa (show w5.cell? ⟨ib, io + j * 8 + 1, none⟩ = some (.bool xb) from hcx 1 _ rfl)
       have i2 := zaa (show w5.cell? ⟨ib, io + j * 8 + 2, none⟩ = some (.int .i64 xn) from hcx 2 _ rfl)
       have i3 := zaa (show w5.cell? ⟨ib, io + j * 8 + 3, none⟩ = some (.string xt) from hcx 3 _ rfl)
       have i4 := zaa (show w5.cell? ⟨ib, io + j * 8 + 4, none⟩ = some (.string xut) from hcx 4 _ rfl)
       have i5 := zaa (show w5.cell? ⟨ib, io + j * 8 + 5, none⟩ = some (.string xui) from hcx 5 _ rfl)
       have i6 := zaa (show w5.cell? ⟨ib, io + j * 8 + 6, none⟩ = some (.slice xA xl xc) from hcx 6 _ rfl)
       have i7 := zaa (show w5.cell? ⟨ib, io + j * 8 + 7, none⟩ = some (.slice xB xm xd) from hcx 7 _ rfl)
       have a1 := zaa (show w5.cell? ⟨ab, ao + ia * 6 + 1, none⟩ = some (.int .i64 a.ty.kind) from hca 1 _ rfl)
       have a2 := zaa (show w5.cell? ⟨ab, ao + ia * 6 + 1 + 1, none⟩ = some (.string a.ty.name) from hca 2 _ rfl)
       have a3 := zaa (show w5.cell? ⟨ab, ao + ia * 6 + 1 + 2, none⟩ = some (.slice aA al ac) from hca 3 _ rfl)
       have a4 := zaa (show w5.cell? ⟨ab, ao + ia * 6 + 1 + 3, none⟩ = some (.slice aB am ad) from hca 4 _ rfl)
       have f0 := zaa (show w5.cell? ⟨w.heap.size, 6, none⟩ = some (.slice (some ⟨ib, io, none⟩) items.length c1) from cell_of_row _ _ 6 _ _ _ HV5.out)
       have f2 := zaa (show w5.cell? ⟨w.heap.size + 1, 3, none⟩ = some (.slice (some ⟨ab, ao, none⟩) attrs.length tb) from cell_of_row _ _ 3 _ _ _ HTy5.out)
       obtain ⟨rb, hrb⟩ : ∃ rb, a.ty.takes x = rb := ⟨_, rfl⟩
       have HRb : Hid (Atr.takes attrs n x = rb) := q_ (by rw [takes_some HIx.out ha]; exact hrb)
       have KV : Hid (∀ X, Ext w5 X → Calls Tryz.prog 36 #[.agg #[.int .i64 xk, .bool xb, .int .i64 xn, .string xt, .string xut, .string xui, .slice xA xl xc, .slice xB xm xd], .agg #[.int .i64 a.ty.kind, .string a.ty.name, .slice aA al ac, .slice aB am ad]] X fun e w' => e = .returned (.bool rb) ∧ Ext X w') := q_ fun X hX => by
        have hal := Alike.of_ext (HX5.out.trans hX) HS.out
        have h := IH.out x (List.mem_of_getElem? Hx.out) a.ty (HO.out.2.2 a (List.mem_of_getElem? ha)) S X _ _ (fun b hb => Nat.lt_of_lt_of_le (HS.out b hb) (HX5.out.trans hX).size) (hxa.alike hal) (Ty.At.alike hal _ _ hty)
        rw [hrb] at h
        exact h
       clear ha harow hSa hca hat hty hirow hSi hcx hxa hrb
       simp only [pos]
       go_wp2_with fail
       refine zae (by kernel_rfl) (by kernel_rfl) ?_
       iterate 11 (go_big_quiet_step (fail))
       go_big_quiet_step ((go_at_call 36; exact zan KV.out _ _))
       iterate 1 (go_big_quiet_step (fail))
       refine wpQuiet_nil ?_
       intro w6 hw6
       have HX6 := q_ (HX5.out.trans hw6)
       have HV6 := q_ ((hw6.block _ (zad HV5.out)).trans HV5.out)
       have HTy6 := q_ ((hw6.block _ (zad HTy5.out)).trans HTy5.out)
       clear hw6 i0 i1 i2 i3 i4 i5 i6 i7 a1 a2 a3 a4 f0 f2
       cases rb
       ·go_wp2_with fail
        go_ret
        exact ⟨zal (by rw [HT8.out, zip_not Hn.out Hx.out HRb.out]; rfl), HX6.out⟩
       ·go_wp2_with fail
        go_roundw
        case rel => exact ⟨j + 1, by omega, by go_num, HX6, HV6, HTy6, q_ fun i n' x' hi hn' hx' => by
         by_cases hij : i = j
         ·subst hij
          rw [Hn.out] at hn'; cases hn'
          rw [Hx.out] at hx'; cases hx'
          exact HRb.out
         ·exact HA.out i n' x' (by omega) hn' hx'⟩
        case measure => simp [intOf]; omega
     ·have hje : j = names.length := by omega
      subst hje
      have HZ := q_ (zip_all HA.out)
      clear HA
      have d2 : wr.cell? ⟨w.heap.size + 1, 3, none⟩ = some (.slice tB attrs.length tb) := cell_of_row _ _ 3 _ _ _ HTy.out
      go_wp2_with fail
      clear d1 d2
      rename World => v1
      go_loopw [11] (fun c' wr => ∃ j : Nat, j ≤ attrs.length ∧ c' = .int .i64 j ∧ Hid (Ext w wr) ∧ Hid (wr.heap[w.heap.size]? = some (.cells #[.int .i64 6, .bool b1, .int .i64 n1, .string t1, .string ut1, .string ui1, .slice A1 items.length c1, .slice A2 names.length c2] 46 (0, 0))) ∧ Hid (wr.heap[w.heap.size + 1]? = some (.cells #[.int .i64 8, .string tn, .slice tA elem.length ta, .slice tB attrs.length tb] 53 (0, 0))) ∧
       Hid (∀ i a, i < j → attrs[i]? = some a → (a.opt || names.any fun n => decide (n = a.name)) = true)) (fun c' _ => attrs.length - (intOf c').toNat)
      case atStart => exact ⟨0, Nat.zero_le _, rfl, HX, HV, HTy, q_ fun _ _ h => by omega⟩
      case round =>
       clear HX HV HTy
       obtain ⟨j, hj, rfl, HX, HV, HTy, HA⟩ := hrel
       have d2 : wr.cell? ⟨w.heap.size + 1, 3, none⟩ = some (.slice tB attrs.length tb) := cell_of_row _ _ 3 _ _ _ HTy.out
       by_cases hlt : j < attrs.length
       ·obtain ⟨a, ha⟩ : ∃ a, attrs[j]? = some a := ⟨_, List.getElem?_eq_getElem hlt⟩
        obtain ⟨ab, ao, eab, hSa, harow⟩ := HTr8.out (by omega)
        subst eab
        obtain ⟨ca, hca, hat⟩ := harow j a ha
        obtain ⟨aA, al, ac, aB, am, ad, rfl, _, _⟩ := hat.shape
        have hca : CellsAt wr ab (ao + j * 6) [.string a.name, .int .i64 a.ty.kind, .string a.ty.name, .slice aA al ac, .slice aB am ad, .bool a.opt] := hca.alike hSa (Alike.of_ext HX.out HS.out)
        obtain ⟨xo, hxo⟩ : ∃ xo, a.opt = xo := ⟨_, rfl⟩
        have f0 := zaa d2
        have f1 := zaa (show wr.cell? ⟨ab, ao + j * 6 + 5, none⟩ = some (.bool xo) by rw [← hxo]; exact hca 5 _ rfl)
        have f2 := zaa (show wr.cell? ⟨ab, ao + j * 6, none⟩ = some (.string a.name) from hca 0 _ rfl)
        have h0 := zaa (show wr.cell? ⟨w.heap.size, 0, none⟩ = some (.int .i64 6) from cell_of_row _ _ 0 _ _ _ HV.out)
        have h1 := zaa (show wr.cell? ⟨w.heap.size, 1, none⟩ = some (.bool b1) from cell_of_row _ _ 1 _ _ _ HV.out)
        have h2 := zaa (show wr.cell? ⟨w.heap.size, 2, none⟩ = some (.int .i64 n1) from cell_of_row _ _ 2 _ _ _ HV.out)
        have h3 := zaa (show wr.cell? ⟨w.heap.size, 3, none⟩ = some (.string t1) from cell_of_row _ _ 3 _ _ _ HV.out)
        have h4 := zaa (show wr.cell? ⟨w.heap.size, 4, none⟩ = some (.string ut1) from cell_of_row _ _ 4 _ _ _ HV.out)
        have h5 := zaa (show wr.cell? ⟨w.heap.size, 5, none⟩ = some (.string ui1) from cell_of_row _ _ 5 _ _ _ HV.out)
        have h6 := zaa (show wr.cell? ⟨w.heap.size, 6, none⟩ = some (.slice A1 items.length c1) from cell_of_row _ _ 6 _ _ _ HV.out)
        have h7 := zaa (show wr.cell? ⟨w.heap.size, 7, none⟩ = some (.slice A2 names.length c2) from cell_of_row _ _ 7 _ _ _ HV.out)
        obtain ⟨nb, hnb⟩ : ∃ nb, (names.any fun n => decide (n = a.name)) = nb := ⟨_, rfl⟩
        obtain ⟨z, hz⟩ : ∃ z, pos (Val.find (.mk 6 b1 n1 t1 ut1 ui1 items names) a.name) = z := ⟨_, rfl⟩
        have hzz : decide (z < 0) = !nb := by rw [← hz, ← hnb, find_neg HNl.out]
        have KG : Hid (∀ X, Ext wr X → Calls Tryz.prog 69 #[.agg #[.int .i64 6, .bool b1, .int .i64 n1, .string t1, .string ut1, .string ui1, .slice A1 items.length c1, .slice A2 names.length c2], .string a.name] X fun e w' => e = .returned (.int .i64 z) ∧ Ext X w') := q_ fun X hX => by
         have h := getR_ok (.mk 6 b1 n1 t1 ut1 ui1 items names) a.name S X _ (fun b hb => Nat.lt_of_lt_of_le (HS.out b hb) (HX.out.trans hX).size) (HVl.out.alike (Alike.of_ext (HX.out.trans hX) HS.out))
         rw [hz] at h
         exact h
        have Ha := q_ ha
        have HXo := q_ hxo
        have HNb := q_ hnb
        clear ha harow hSa hca hat hxo hnb hz
        cases xo <;> cases nb <;> (simp only [Bool.not_true, Bool.not_false] at hzz)
        all_goals
         go_wp2_with fail
         refine zae (by kernel_rfl) (by kernel_rfl) ?_
         iterate 15 (go_big_quiet_step (fail))
         go_big_quiet_step (first | ((go_at_call 69; exact zan KG.out _ _)) | fail)
         iterate 2 (go_big_quiet_step (fail))
         refine wpQuiet_nil ?_
         intro w5 hw5
         have HX5 := q_ (HX.out.trans hw5)
         have HV5 := q_ ((hw5.block _ (zad HV.out)).trans HV.out)
         have HTy5 := q_ ((hw5.block _ (zad HTy.out)).trans HTy.out)
         clear hw5 f0 f1 f2 d2 h0 h1 h2 h3 h4 h5 h6 h7 hzz
         go_wp2_with fail
         first
          | (
            go_roundw
            case rel => exact ⟨j + 1, by omega, by go_num, HX5, HV5, HTy5, q_ fun i y hi hy => by
             by_cases hij : i = j
             ·subst hij; rw [Ha.out] at hy; cases hy; rw [HXo.out, HNb.out]; rfl
             ·exact HA.out i y (by omega) hy⟩
            case measure => simp [intOf]; omega)
          | (
            go_ret
            exact ⟨zal (by
             rw [HT8.out, HZ.out, eq_comm, Bool.true_and, Bool.eq_false_iff]
             intro h
             rw [List.all_eq_true] at h
             have := h a (List.mem_of_getElem? Ha.out)
             rw [HXo.out, HNb.out] at this
             cases this), HX5.out⟩)
       ·have hje : j = attrs.length := by omega
        subst hje
        have d0 : wr.cell? ⟨w.heap.size + 1, 0, none⟩ = some (.int .i64 8) := cell_of_row _ _ 0 _ _ _ HTy.out
        go_wp2_with fail
        go_ret
        exact ⟨zal (by
         rw [HT8.out, HZ.out, eq_comm, Bool.true_and, List.all_eq_true]
         intro x hx
         obtain ⟨i, hi⟩ := List.mem_iff_getElem?.1 hx
         exact HA.out i x (List.getElem?_eq_some_iff.1 hi).1 hi), HX.out⟩
   ·have ek : (k1 != 6) = true := by simpa using hk
    have HK := q_ hk
    clear hk
    obtain ⟨W, hW⟩ : ∃ W, W = ((w.alloc (.cells #[.int .i64 k1, .bool b1, .int .i64 n1, .string t1, .string ut1, .string ui1, .slice A1 items.length c1, .slice A2 names.length c2] 46)).alloc (.cells #[.int .i64 8, .string tn, .slice tA elem.length ta, .slice tB attrs.length tb] 53)).alloc (.cells #[.int .i64 0, .int .i64 1, .int .i64 1, .int .i64 1, .int .i64 2, .int .i64 3, .int .i64 4, .int .i64 5, .int .i64 6] 3) := ⟨_, rfl⟩
    obtain ⟨hb0, hb1, hb2, hsz, hx⟩ := zcj w (.cells #[.int .i64 k1, .bool b1, .int .i64 n1, .string t1, .string ut1, .string ui1, .slice A1 items.length c1, .slice A2 names.length c2] 46) (.cells #[.int .i64 8, .string tn, .slice tA elem.length ta, .slice tB attrs.length tb] 53) (.cells #[.int .i64 0, .int .i64 1, .int .i64 1, .int .i64 1, .int .i64 2, .int .i64 3, .int .i64 4, .int .i64 5, .int .i64 6] 3)
    rw [← hW] at hb0 hb1 hb2 hsz hx
    have g0 := zaa (show W.cell? ⟨w.heap.size, 0, none⟩ = some (.int .i64 k1) from cell_of_row _ _ 0 _ _ _ hb0)
    have g1 := zaa (show W.cell? ⟨w.heap.size + 1, 0, none⟩ = some (.int .i64 8) from cell_of_row _ _ 0 _ _ _ hb1)
    have g2 := zaa (show W.cell? ⟨w.heap.size + 2, 8, none⟩ = some (.int .i64 6) from cell_of_row _ _ 8 _ _ _ hb2)
    have g2' := zaa (show W.cell? ⟨w.heap.size + 1 + 1, 8, none⟩ = some (.int .i64 6) from cell_of_row _ _ 8 _ _ _ hb2)
    have HXW := q_ hx
    have HB0 := q_ hb0
    have HB1 := q_ hb1
    clear hb0 hb1 hb2 hsz hx
    subst hW
    go_enter Tryz.func36, Tryz.ntmps36
    go_wp2_with fail
    refine zae (by kernel_rfl) (by kernel_rfl) ?_
    iterate 18 (go_big_quiet_step (fail))
    refine wpQuiet_nil ?_
    intro w4 hw4
    have HX4 := q_ (HXW.out.trans hw4)
    have HV4 := q_ ((hw4.block _ (zad HB0.out)).trans HB0.out)
    have HT4 := q_ ((hw4.block _ (zad HB1.out)).trans HB1.out)
    clear hw4 g0 g1 g2 g2' HXW HB0 HB1
    go_wp2_with fail
    go_ret
    exact ⟨zal (by rw [HT.out]; simp [HK.out]), HX4.out⟩
  have HN := q_ (show ¬ tk = 1 ∧ ¬ tk = 2 ∧ ¬ tk = 3 ∧ ¬ tk = 4 ∧ ¬ tk = 5 ∧ ¬ tk = 6 ∧ ¬ tk = 7 ∧ ¬ tk = 8 from ⟨q1, q2, q3, q4, q5, q6, q7, q8⟩)
  by_cases ql : tk < 1
  ·have e1 : decide (tk < 1) = true := decide_eq_true ql
   clear q1 q2 q3 q4 q5 q6 q7 q8
   obtain ⟨W, hW⟩ : ∃ W, W = ((w.alloc (.cells #[.int .i64 k1, .bool b1, .int .i64 n1, .string t1, .string ut1, .string ui1, .slice A1 items.length c1, .slice A2 names.length c2] 46)).alloc (.cells #[.int .i64 tk, .string tn, .slice tA elem.length ta, .slice tB attrs.length tb] 53)).alloc (.cells #[.int .i64 0, .int .i64 1, .int .i64 1, .int .i64 1, .int .i64 2, .int .i64 3, .int .i64 4, .int .i64 5, .int .i64 6] 3) := ⟨_, rfl⟩
   obtain ⟨hb0, hb1, hb2, hsz, hx⟩ := zcj w (.cells #[.int .i64 k1, .bool b1, .int .i64 n1, .string t1, .string ut1, .string ui1, .slice A1 items.length c1, .slice A2 names.length c2] 46) (.cells #[.int .i64 tk, .string tn, .slice tA elem.length ta, .slice tB attrs.length tb] 53) (.cells #[.int .i64 0, .int .i64 1, .int .i64 1, .int .i64 1, .int .i64 2, .int .i64 3, .int .i64 4, .int .i64 5, .int .i64 6] 3)
   rw [← hW] at hb0 hb1 hb2 hsz hx
   have g0 := zaa (show W.cell? ⟨w.heap.size, 0, none⟩ = some (.int .i64 k1) from cell_of_row _ _ 0 _ _ _ hb0)
   have g1 := zaa (show W.cell? ⟨w.heap.size + 1, 0, none⟩ = some (.int .i64 tk) from cell_of_row _ _ 0 _ _ _ hb1)
   have HXW := q_ hx
   have HB0 := q_ hb0
   have HB1 := q_ hb1
   clear hb0 hb1 hb2 hsz hx
   subst hW
   go_enter Tryz.func36, Tryz.ntmps36
   go_wp2_with fail
   refine zae (by kernel_rfl) (by kernel_rfl) ?_
   iterate 18 (go_big_quiet_step (fail))
   refine wpQuiet_nil ?_
   intro w4 hw4
   have HX4 := q_ (HXW.out.trans hw4)
   have HV4 := q_ ((hw4.block _ (zad HB0.out)).trans HB0.out)
   have HT4 := q_ ((hw4.block _ (zad HB1.out)).trans HB1.out)
   clear hw4 g0 g1 HXW HB0 HB1
   go_wp2_with fail
   go_ret
   exact ⟨zal (by rw [HT.out]; simp [HN.out]), HX4.out⟩
  ·have e1 : decide (tk < 1) = false := decide_eq_false ql
   have e2 : decide ((8 : Int) < tk) = true := decide_eq_true (by omega)
   clear q1 q2 q3 q4 q5 q6 q7 q8
   obtain ⟨W, hW⟩ : ∃ W, W = ((w.alloc (.cells #[.int .i64 k1, .bool b1, .int .i64 n1, .string t1, .string ut1, .string ui1, .slice A1 items.length c1, .slice A2 names.length c2] 46)).alloc (.cells #[.int .i64 tk, .string tn, .slice tA elem.length ta, .slice tB attrs.length tb] 53)).alloc (.cells #[.int .i64 0, .int .i64 1, .int .i64 1, .int .i64 1, .int .i64 2, .int .i64 3, .int .i64 4, .int .i64 5, .int .i64 6] 3) := ⟨_, rfl⟩
   obtain ⟨hb0, hb1, hb2, hsz, hx⟩ := zcj w (.cells #[.int .i64 k1, .bool b1, .int .i64 n1, .string t1, .string ut1, .string ui1, .slice A1 items.length c1, .slice A2 names.length c2] 46) (.cells #[.int .i64 tk, .string tn, .slice tA elem.length ta, .slice tB attrs.length tb] 53) (.cells #[.int .i64 0, .int .i64 1, .int .i64 1, .int .i64 1, .int .i64 2, .int .i64 3, .int .i64 4, .int .i64 5, .int .i64 6] 3)
   rw [← hW] at hb0 hb1 hb2 hsz hx
   have g0 := zaa (show W.cell? ⟨w.heap.size, 0, none⟩ = some (.int .i64 k1) from cell_of_row _ _ 0 _ _ _ hb0)
   have g1 := zaa (show W.cell? ⟨w.heap.size + 1, 0, none⟩ = some (.int .i64 tk) from cell_of_row _ _ 0 _ _ _ hb1)
   have HXW := q_ hx
   have HB0 := q_ hb0
   have HB1 := q_ hb1
   clear hb0 hb1 hb2 hsz hx
   subst hW
   go_enter Tryz.func36, Tryz.ntmps36
   go_wp2_with fail
   refine zae (by kernel_rfl) (by kernel_rfl) ?_
   iterate 18 (go_big_quiet_step (fail))
   refine wpQuiet_nil ?_
   intro w4 hw4
   have HX4 := q_ (HXW.out.trans hw4)
   have HV4 := q_ ((hw4.block _ (zad HB0.out)).trans HB0.out)
   have HT4 := q_ ((hw4.block _ (zad HB1.out)).trans HB1.out)
   clear hw4 g0 g1 HXW HB0 HB1
   go_wp2_with fail
   go_ret
   exact ⟨zal (by rw [HT.out]; simp [HN.out]), HX4.out⟩
end Go.Proofs.YtbkaffhbhimglaaGreat
