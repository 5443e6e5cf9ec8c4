/-
  Whether two values are the same, field by field: what the reference's comparison comes to. The conditions: none beyond the contract's own.
-/
import Derived.Test.YtpkgkabcikmopaaOrdR
namespace Go.Proofs.Ytpkgkabcikmopaa
open Go.RowKit

noncomputable def eqB {α : Type} (a b : α) : Bool := @decide (a = b) (Classical.propDecidable _)
theorem eqB_true {α : Type} {a b : α} : eqB a b = true ↔ a = b := by unfold eqB; simp
theorem eqB_false {α : Type} {a b : α} : eqB a b = false ↔ a ≠ b := by unfold eqB; simp
/-- a value's box, of which the two slices are known -/
def BoxIs (w : World) (g : Nat) (T : TypeId) (a b : Value) : Prop := ∃ v0 v1 v2 v3 v4 v5, w.heap[g]? = some (.cells #[v0, v1, v2, v3, v4, v5, a, b] T (0, 0))
theorem BoxIs.c6 {w : World} {g : Nat} {T : TypeId} {a b : Value} (h : BoxIs w g T a b) : w.cell? ⟨g, 6, none⟩ = some a := by
  obtain ⟨_, _, _, _, _, _, h⟩ := h; rw [cell_of_row _ _ _ _ _ _ h]; rfl
theorem BoxIs.c7 {w : World} {g : Nat} {T : TypeId} {a b : Value} (h : BoxIs w g T a b) : w.cell? ⟨g, 7, none⟩ = some b := by
  obtain ⟨_, _, _, _, _, _, h⟩ := h; rw [cell_of_row _ _ _ _ _ _ h]; rfl
theorem BoxIs.ext {w w' : World} {g : Nat} {T : TypeId} {a b : Value} (h : BoxIs w g T a b) (k : Ext w w') : BoxIs w' g T a b := by
  obtain ⟨v0, v1, v2, v3, v4, v5, h⟩ := h; exact ⟨v0, v1, v2, v3, v4, v5, (k.block _ (Blk_lt h)).trans h⟩
theorem str_ne {a b : ByteArray} (h : a ≠ b) : (!a.toList == b.toList) = true := by
  simp only [Bool.not_eq_true', beq_eq_false_iff_ne]; exact fun e => h (toList_inj e)

set_option maxRecDepth 100000 in
set_option maxHeartbeats 1600000 in
theorem whole_ok (n : Nat) : ∀ (a b : Val) (S : Nat → Prop) (w : World) (ca cb : List Value), SizeOf.sizeOf a ≤ n → (∀ b, S b → b < w.heap.size) → Val.At S w a ca → Val.At S w b cb →
    Calls Try.prog 20 #[.agg ca.toArray, .agg cb.toArray] w fun en w' => en = .returned (.bool (eqB a b)) ∧ Ext w w' := by
  induction n with
  | zero => intro a; cases a; simp
  | succ n ih =>
    intro a b S w ca cb hn hS ha hb
    have Ha := Lib.hid ha
    have Hb := Lib.hid hb
    have HS := Lib.hid hS
    have Hn := Lib.hid hn
    have IH := Lib.hid ih
    cases a with
    | mk k bo i t ut ui items names =>
    cases b with
    | mk k' bo' i' t' ut' ui' items' names' =>
    unfold Val.At at ha hb
    obtain ⟨A, cap, nv, rfl, _, ⟨ha1, ha2, ha3⟩, hai, A2, cap2, rfl, ha4, ha5, ha6, ha7, han⟩ := ha
    obtain ⟨B, bcap, nv, rfl, _, ⟨hb1, hb2, hb3⟩, hbi, B2, bcap2, rfl, hb4, hb5, hb6, hb7, hbn⟩ := hb
    rw [LIM_eq] at ha1 hb1 ha4 hb4
    rw [maxLen_eq] at ha3 hb3 ha6 hb6
    have Hai := Lib.hid hai
    have Hbi := Lib.hid hbi
    have Han := Lib.hid han
    have Hbn := Lib.hid hbn
    clear hai hbi han hbn ha7 hb7 hS hn ih
    by_cases hq : (k = k' ∧ bo = bo' ∧ i = i' ∧ t = t' ∧ ut = ut' ∧ ui = ui') ∧ items.length = items'.length ∧ names.length = names'.length
    case neg =>
      have HQ := Lib.hid hq
      clear hq
      go_enter Try.func20, Try.ntmps20
      go_wp2_with fail
      case' _ => skip
      rotate_left 1
      · exfalso
        have q1 : k = k' := by assumption
        have q2 : bo = bo' := by assumption
        have q3 : i = i' := by assumption
        have q4 : t.toList = t'.toList := by assumption
        have q5 : ut.toList = ut'.toList := by assumption
        have q6 : ui.toList = ui'.toList := by assumption
        have q7 : (items.length : Int) = items'.length := by assumption
        have q8 : ((names.length : Int) != names'.length) = false := by assumption
        exact HQ.out ⟨⟨q1, q2, q3, toList_inj q4, toList_inj q5, toList_inj q6⟩, by omega, by simp at q8; omega⟩
      all_goals
        go_ret
        exact ⟨ret_bool (eqB_false.2 (fun hh => HQ.out (by injection hh; simp_all))).symm, ((Ext.refl w).alloc _).alloc _⟩
    · obtain ⟨⟨rfl, rfl, rfl, rfl, rfl, rfl⟩, q7, q8⟩ := hq
      have HLi := Lib.hid q7
      have HLn := Lib.hid q8
      have e1 : ((items.length : Int) != items'.length) = false := by simp; omega
      have e2 : ((names.length : Int) != names'.length) = false := by simp; omega
      clear q7 q8
      go_enter Try.func20, Try.ntmps20
      go_wp2_with fail
      go_loopw [5] (fun z wr => ∃ y : Nat, y ≤ names.length ∧ z = .int .i64 y ∧ BoxIs wr w.heap.size 27 (.slice A items.length cap) (.slice A2 names.length cap2) ∧ BoxIs wr (w.heap.size + 1) 27 (.slice B items'.length bcap) (.slice B2 names'.length bcap2) ∧ Ext w wr ∧
          Hid (∀ i x y', i < y → names[i]? = some x → names'[i]? = some y' → x = y')) (fun z _ => names.length - (intOf z).toNat)
      case atStart => exact ⟨0, Nat.zero_le _, rfl, ⟨_, _, _, _, _, _, by rw [Below.heap_alloc _ _ _ (by simp)]; exact heap_alloc_new _ _⟩, ⟨_, _, _, _, _, _, by simpa using heap_alloc_new (w.alloc _) _⟩, ((Ext.refl w).alloc _).alloc _, fun _ _ _ h => by omega⟩
      case round =>
        obtain ⟨z, hz, rfl, hb1', hb2', hext, Hall⟩ := hrel
        have HX := Lib.hid hext
        have HB1 := Lib.hid hb1'
        have HB2 := Lib.hid hb2'
        clear hext hb1' hb2'
        have p7 : wr.cell? ⟨w.heap.size, 7, none⟩ = some (.slice A2 names.length cap2) := HB1.out.c7
        have r7 : wr.cell? ⟨w.heap.size + 1, 7, none⟩ = some (.slice B2 names'.length bcap2) := HB2.out.c7
        by_cases hlt : z < names.length
        · obtain ⟨b, o, rfl, hSb, hrow⟩ := Han.out (by omega)
          obtain ⟨x, hx⟩ : ∃ x, names[z]? = some x := ⟨_, List.getElem?_eq_getElem hlt⟩
          have hcx : wr.cell? ⟨b, o + z, none⟩ = some (.string x) := hrow.alike hSb (Alike.of_ext HX.out HS.out) z (.string x) (by simp [hx])
          have hlm : z < names'.length := by rw [← HLn.out]; exact hlt
          obtain ⟨b', o', rfl, hSb', hrow'⟩ := Hbn.out (by omega)
          obtain ⟨y, hy⟩ : ∃ y, names'[z]? = some y := ⟨_, List.getElem?_eq_getElem hlm⟩
          have hcy : wr.cell? ⟨b', o' + z, none⟩ = some (.string y) := hrow'.alike hSb' (Alike.of_ext HX.out HS.out) z (.string y) (by simp [hy])
          have Hx := Lib.hid hx
          have Hy := Lib.hid hy
          clear hx hrow hSb hy hrow' hSb'
          have r1 := cell_regrown hcx
          have r2 := cell_regrown hcy
          have r3 := cell_regrown p7
          have r4 := cell_regrown r7
          go_wp2_with fail
          refine region_later (by kernel_rfl) (by kernel_rfl) ?_
          repeat (quiet_step (fail))
          refine wpQuiet_nil ?_
          intro w2 hw2
          have HX2 := Lib.hid hw2
          clear hw2 r1 r2 r3 r4
          go_wp2_with fail
          · have hne : (!x.toList == y.toList) = true := by assumption
            go_ret
            exact ⟨ret_bool (eqB_false.2 (fun hh => by
              injection hh with _ _ _ _ _ _ _ hh
              have h1 := Hx.out
              rw [hh, Hy.out] at h1
              injection h1 with h1
              subst h1
              simp at hne)).symm, HX.out.trans HX2.out⟩
          · have hne : (!x.toList == y.toList) = false := by assumption
            have hall' : ∀ i p q, i < z + 1 → names[i]? = some p → names'[i]? = some q → p = q := fun i p q hi hp hq => by
              by_cases hik : i = z
              · subst hik; rw [Hx.out] at hp; rw [Hy.out] at hq; cases hp; cases hq; exact toList_inj (by simpa using hne)
              · exact Hall.out i p q (by omega) hp hq
            go_roundw
            case rel => first | exact ⟨z + 1, by omega, by go_num, HB1.out.ext HX2.out, HB2.out.ext HX2.out, HX.out.trans HX2.out, hall'⟩ | ((repeat apply Exists.intro); exact ⟨⟨z + 1, by omega, by go_num, HB1.out.ext HX2.out, HB2.out.ext HX2.out, HX.out.trans HX2.out, hall'⟩, rfl⟩)
            case measure => simp [intOf]; omega
        · have hzn : z = names.length := by omega
          have HN := Lib.hid (show names = names' from List.ext_getElem? fun i => by
            by_cases hi : i < names.length
            · have h1 := Hall.out i names[i] (names'[i]'(by rw [← HLn.out]; exact hi)) (by omega) (List.getElem?_eq_getElem hi) (List.getElem?_eq_getElem _)
              rw [List.getElem?_eq_getElem hi, List.getElem?_eq_getElem (by rw [← HLn.out]; exact hi), h1]
            · rw [List.getElem?_eq_none (by omega), List.getElem?_eq_none (by rw [← HLn.out]; omega)])
          clear hzn Hall
          go_wp2_with fail
          obtain ⟨wo, hwo⟩ : ∃ wo : World, wo = wr := ⟨_, rfl⟩
          subst hwo
          go_loopw [6] (fun z wr => ∃ y : Nat, y ≤ items.length ∧ z = .int .i64 y ∧ BoxIs wr w.heap.size 27 (.slice A items.length cap) (.slice A2 names.length cap2) ∧ BoxIs wr (w.heap.size + 1) 27 (.slice B items'.length bcap) (.slice B2 names'.length bcap2) ∧ Ext w wr ∧
              Hid (∀ i x y', i < y → items[i]? = some x → items'[i]? = some y' → x = y')) (fun z _ => items.length - (intOf z).toNat)
          case atStart => exact ⟨0, Nat.zero_le _, rfl, HB1.out, HB2.out, HX.out, fun _ _ _ h => by omega⟩
          case round =>
            clear HX HB1 HB2 p7 r7 hlt hz
            obtain ⟨z, hz, rfl, hb1', hb2', hext, Hall⟩ := hrel
            have HX := Lib.hid hext
            have HB1 := Lib.hid hb1'
            have HB2 := Lib.hid hb2'
            have HSr := Lib.hid (show ∀ b, S b → b < wr.heap.size from fun b hb => Nat.lt_of_lt_of_le (HS.out b hb) hext.size)
            clear hext hb1' hb2'
            have p7 : wr.cell? ⟨w.heap.size, 6, none⟩ = some (.slice A items.length cap) := HB1.out.c6
            have r7 : wr.cell? ⟨w.heap.size + 1, 6, none⟩ = some (.slice B items'.length bcap) := HB2.out.c6
            by_cases hlt : z < items.length
            · obtain ⟨b, o, rfl, hSb, hrow⟩ := Hai.out (by omega)
              obtain ⟨x, hx⟩ : ∃ x, items[z]? = some x := ⟨_, List.getElem?_eq_getElem hlt⟩
              obtain ⟨cs, hcl, hca, hxa⟩ := hrow.get hx
              have hlm : z < items'.length := by rw [← HLi.out]; exact hlt
              obtain ⟨b', o', rfl, hSb', hrow'⟩ := Hbi.out (by omega)
              obtain ⟨y, hy⟩ : ∃ y, items'[z]? = some y := ⟨_, List.getElem?_eq_getElem hlm⟩
              obtain ⟨cs', hcl', hca', hya⟩ := hrow'.get hy
              have Hca := Lib.hid (hca.alike hSb (Alike.of_ext HX.out HS.out))
              have Hxa := Lib.hid (hxa.alike (Alike.of_ext HX.out HS.out))
              have Hcb := Lib.hid (hca'.alike hSb' (Alike.of_ext HX.out HS.out))
              have Hyb := Lib.hid (hya.alike (Alike.of_ext HX.out HS.out))
              have Hx := Lib.hid hx
              have Hy := Lib.hid hy
              clear hx hxa hca hrow hcl hSb hy hya hca' hrow' hcl' hSb'
              obtain ⟨k1, b1, n1, t1, ut1, ui1, A1, l1, c1, A3, l3, c3, rfl⟩ := Hxa.out.shape
              obtain ⟨k2, b2, n2, t2, ut2, ui2, A4, l4, c4, A5, l5, c5, rfl⟩ := Hyb.out.shape
              have f0 := cell_regrown (show wr.cell? ⟨b, o + z * 8, none⟩ = some (.int .i64 k1) by simpa using Hca.out 0 _ rfl)
              have f1 := cell_regrown (show wr.cell? ⟨b, o + z * 8 + 1, none⟩ = some (.bool b1) by simpa using Hca.out 1 _ rfl)
              have f2 := cell_regrown (show wr.cell? ⟨b, o + z * 8 + 2, none⟩ = some (.int .i64 n1) by simpa using Hca.out 2 _ rfl)
              have f3 := cell_regrown (show wr.cell? ⟨b, o + z * 8 + 3, none⟩ = some (.string t1) by simpa using Hca.out 3 _ rfl)
              have f4 := cell_regrown (show wr.cell? ⟨b, o + z * 8 + 4, none⟩ = some (.string ut1) by simpa using Hca.out 4 _ rfl)
              have f5 := cell_regrown (show wr.cell? ⟨b, o + z * 8 + 5, none⟩ = some (.string ui1) by simpa using Hca.out 5 _ rfl)
              have f6 := cell_regrown (show wr.cell? ⟨b, o + z * 8 + 6, none⟩ = some (.slice A1 l1 c1) by simpa using Hca.out 6 _ rfl)
              have f7 := cell_regrown (show wr.cell? ⟨b, o + z * 8 + 7, none⟩ = some (.slice A3 l3 c3) by simpa using Hca.out 7 _ rfl)
              have g0 := cell_regrown (show wr.cell? ⟨b', o' + z * 8, none⟩ = some (.int .i64 k2) by simpa using Hcb.out 0 _ rfl)
              have g1 := cell_regrown (show wr.cell? ⟨b', o' + z * 8 + 1, none⟩ = some (.bool b2) by simpa using Hcb.out 1 _ rfl)
              have g2 := cell_regrown (show wr.cell? ⟨b', o' + z * 8 + 2, none⟩ = some (.int .i64 n2) by simpa using Hcb.out 2 _ rfl)
              have g3 := cell_regrown (show wr.cell? ⟨b', o' + z * 8 + 3, none⟩ = some (.string t2) by simpa using Hcb.out 3 _ rfl)
              have g4 := cell_regrown (show wr.cell? ⟨b', o' + z * 8 + 4, none⟩ = some (.string ut2) by simpa using Hcb.out 4 _ rfl)
              have g5 := cell_regrown (show wr.cell? ⟨b', o' + z * 8 + 5, none⟩ = some (.string ui2) by simpa using Hcb.out 5 _ rfl)
              have g6 := cell_regrown (show wr.cell? ⟨b', o' + z * 8 + 6, none⟩ = some (.slice A4 l4 c4) by simpa using Hcb.out 6 _ rfl)
              have g7 := cell_regrown (show wr.cell? ⟨b', o' + z * 8 + 7, none⟩ = some (.slice A5 l5 c5) by simpa using Hcb.out 7 _ rfl)
              have r3 := cell_regrown p7
              have r4 := cell_regrown r7
              go_wp2_with fail
              refine region_later (by kernel_rfl) (by kernel_rfl) ?_
              repeat (quiet_step ((go_at_call 20; exact later_call (fun w1 hw1 => IH.out x y S w1 [_, _, _, _, _, _, _, _] [_, _, _, _, _, _, _, _] (by have := Hn.out; have := Val.size_get Hx.out; simp at *; omega) (fun b hb => Nat.lt_of_lt_of_le (HSr.out b hb) hw1.size) (Hxa.out.alike (Alike.of_ext hw1 HSr.out)) (Hyb.out.alike (Alike.of_ext hw1 HSr.out))) _ _)))
              refine wpQuiet_nil ?_
              intro w2 hw2
              have HX2 := Lib.hid hw2
              clear hw2 f0 f1 f2 f3 f4 f5 f6 f7 g0 g1 g2 g3 g4 g5 g6 g7 r3 r4
              go_wp2_with fail
              · have hne : (!eqB x y) = true := by assumption
                go_ret
                exact ⟨ret_bool (eqB_false.2 (fun hh => by
                  injection hh with _ _ _ _ _ _ hh
                  have h1 := Hx.out
                  rw [hh, Hy.out] at h1
                  injection h1 with h1
                  simp [h1, eqB_true.2] at hne)).symm, HX.out.trans HX2.out⟩
              · have hne : (!eqB x y) = false := by assumption
                have hall' : ∀ i p q, i < z + 1 → items[i]? = some p → items'[i]? = some q → p = q := fun i p q hi hp hq => by
                  by_cases hik : i = z
                  · subst hik; rw [Hx.out] at hp; rw [Hy.out] at hq; cases hp; cases hq; exact eqB_true.1 (by simpa using hne)
                  · exact Hall.out i p q (by omega) hp hq
                go_roundw
                case rel => first | exact ⟨z + 1, by omega, by go_num, HB1.out.ext HX2.out, HB2.out.ext HX2.out, HX.out.trans HX2.out, hall'⟩ | ((repeat apply Exists.intro); exact ⟨⟨z + 1, by omega, by go_num, HB1.out.ext HX2.out, HB2.out.ext HX2.out, HX.out.trans HX2.out, hall'⟩, rfl⟩)
                case measure => simp [intOf]; omega
            · go_wp2_with fail
              go_ret
              refine ⟨ret_bool (eqB_true.2 ?_).symm, HX.out⟩
              have hi : items = items' := List.ext_getElem? fun i => by
                by_cases hi : i < items.length
                · have h1 := Hall.out i items[i] (items'[i]'(by rw [← HLi.out]; exact hi)) (by omega) (List.getElem?_eq_getElem hi) (List.getElem?_eq_getElem _)
                  rw [List.getElem?_eq_getElem hi, List.getElem?_eq_getElem (by rw [← HLi.out]; exact hi), h1]
                · rw [List.getElem?_eq_none (by omega), List.getElem?_eq_none (by rw [← HLi.out]; omega)]
              rw [hi, HN.out]

end Go.Proofs.Ytpkgkabcikmopaa
