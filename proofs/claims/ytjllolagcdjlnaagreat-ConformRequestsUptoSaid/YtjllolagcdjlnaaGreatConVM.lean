/-
  Whether a value is of a type: what the program's own answer is. The conditions: the value is as it must be, both lie in memory as they should.
-/
import Derived.Test.YtjllolagcdjlnaaGreatAttM
import Derived.Test.YtjllolagcdjlnaaGreatTyPM
import Derived.Test.YtjllolagcdjlnaaGreatGa
namespace Go.Proofs.YtjllolagcdjlnaaGreat
open Go.RowKit

theorem toList_beq (a b : ByteArray) : (a.toList == b.toList) = decide (a = b) := by
  rw [Bool.eq_iff_iff, beq_iff_eq, decide_eq_true_eq]
  exact ⟨toList_inj, fun h => by rw [h]⟩
theorem toList_beq' (a b : ByteArray) : (a.toList == b.toList) = decide (b = a) := by
  rw [Bool.eq_iff_iff, beq_iff_eq, decide_eq_true_eq]
  exact ⟨fun h => (toList_inj h).symm, fun h => by rw [h]⟩

/-- has a record just the attributes that it may -/
def recB (l : List Atr) (items : List Val) (names : List ByteArray) : Bool := (names.zip items).all (fun p => Atr.takes l p.1 p.2) && l.all fun a => a.opt || names.any fun n => decide (n = a.name)
theorem takes_idx (n : ByteArray) (x : Val) : ∀ l : List Atr, Atr.takes l n x = match atrIdx l n with | none => false | some i => match l[i]? with | none => false | some a => a.ty.takes x
  | [] => by simp [Atr.takes, atrIdx, fidx]
  | a :: r => by
    unfold Atr.takes
    have ih := takes_idx n x r
    by_cases h : a.name = n
    · have h1 : (a.name.toList == n.toList) = true := by rw [toList_beq]; exact decide_eq_true h
      simp only [atrIdx, fidx, h1, if_pos h]
      cases a; rfl
    · have h1 : (a.name.toList == n.toList) = false := by rw [toList_beq]; exact decide_eq_false h
      rw [if_neg h, ih]
      simp only [atrIdx, fidx, h1, Bool.false_eq_true, if_false]
      cases fidx (fun a : Atr => a.name.toList == n.toList) r <;> simp
theorem takes_none {n : ByteArray} {x : Val} {l : List Atr} (h : atrIdx l n = none) : Atr.takes l n x = false := by rw [takes_idx, h]
theorem takes_some {n : ByteArray} {x : Val} {l : List Atr} {i : Nat} {a : Atr} (h : atrIdx l n = some i) (ha : l[i]? = some a) : Atr.takes l n x = a.ty.takes x := by rw [takes_idx, h]; simp [ha]
theorem zip_all {l : List Atr} {items : List Val} {names : List ByteArray} (h : ∀ i n x, i < names.length → names[i]? = some n → items[i]? = some x → Atr.takes l n x = true) : (names.zip items).all (fun p => Atr.takes l p.1 p.2) = true := by
  rw [List.all_eq_true]
  intro p hp
  obtain ⟨i, hi⟩ := List.mem_iff_getElem?.1 hp
  obtain ⟨n, x⟩ := p
  rw [List.getElem?_zip_eq_some] at hi
  exact h i n x (List.getElem?_eq_some_iff.1 hi.1).1 hi.1 hi.2
theorem zip_not {l : List Atr} {items : List Val} {names : List ByteArray} {i : Nat} {n : ByteArray} {x : Val} (hn : names[i]? = some n) (hx : items[i]? = some x) (h : Atr.takes l n x = false) : (names.zip items).all (fun p => Atr.takes l p.1 p.2) = false := by
  rw [Bool.eq_false_iff]
  intro ht
  rw [List.all_eq_true] at ht
  have := ht (n, x) (List.mem_iff_getElem?.2 ⟨i, List.getElem?_zip_eq_some.2 ⟨hn, hx⟩⟩)
  rw [h] at this
  cases this
/-- is an attribute missing? -/
def missB (names : List ByteArray) (a : Atr) : Bool := !a.opt && !(names.any fun x => a.name.toList == x.toList)
theorem miss_any (l : List Atr) (names : List ByteArray) : (!(l.any (missB names))) = l.all fun a => a.opt || names.any fun n => decide (n = a.name) := by
  rw [Bool.eq_iff_iff, Bool.not_eq_true', List.any_eq_false, List.all_eq_true]
  refine forall_congr' fun a => forall_congr' fun _ => ?_
  unfold missB
  rw [show (fun x : ByteArray => a.name.toList == x.toList) = fun n => decide (n = a.name) from funext fun x => toList_beq' _ _]
  cases a.opt <;> cases names.any fun n => decide (n = a.name) <;> simp

theorem Tryz.enterRM : ∀ args w, (callFunc 114 args).run Tryz.prog w = .ok (.enter 114 args) w := fun _ _ => by kernel_rfl
theorem Tryz.enterCV : ∀ args w, (callFunc 77 args).run Tryz.prog w = .ok (.enter 77 args) w := fun _ _ => by kernel_rfl

set_option maxRecDepth 100000 in
set_option maxHeartbeats 800000 in
theorem miss1_ok (names : List ByteArray) (a : Atr) (S : Nat → Prop) (w : World) (cs : List Value) (g : Nat) (u0 u1 u2 u3 u4 u5 u6 : Value) (nv : Value) (h : Atr.At S w a cs) (hn : strR.RowsAt S w names nv) (hS : ∀ b, S b → b < w.heap.size) (hg : w.heap[g]? = some (.cells #[u0, u1, u2, u3, u4, u5, u6, nv] 35 (0, 0))) :
    Calls Tryz.prog 114 (#[.agg cs.toArray] ++ #[.pointer (some ⟨g, 0, none⟩)]) w fun e w' => e = .returned (.bool (missB names a)) ∧ Ext w w' := by
  have hw := (Ext.refl w).alloc (.cells cs.toArray 83)
  obtain ⟨A, la, ca, B, lb, cb, rfl, _⟩ := h.shape
  have c0 : (w.alloc (.cells #[.string a.name, .int .i64 a.ty.kind, .string a.ty.name, .slice A la ca, .slice B lb cb, .bool a.opt] 83)).cell? ⟨g, 7, none⟩ = some nv := cell_of_row _ _ 7 _ _ _ ((hw.block g (Blk_lt hg)).trans hg)
  have HN := Lib.hid (hn.alike (Alike.of_ext hw hS))
  obtain ⟨bb, hbb⟩ : ∃ bb, (names.any fun x => a.name.toList == x.toList) = bb := ⟨_, rfl⟩
  have hm : missB names a = (!a.opt && !bb) := by unfold missB; rw [hbb]
  rw [hm]
  have HB := Lib.hid hbb
  obtain ⟨An, ln, cn, rfl⟩ : ∃ A l c, nv = .slice A l c := by obtain ⟨A, c, rfl, _⟩ := hn; exact ⟨_, _, _, rfl⟩
  have HX := Lib.hid hw
  clear hg h hn hS hbb hm hw
  show Calls Tryz.prog 114 #[.agg #[.string a.name, .int .i64 a.ty.kind, .string a.ty.name, .slice A la ca, .slice B lb cb, .bool a.opt], .pointer (some ⟨g, 0, none⟩)] w _
  cases ho : a.opt
  all_goals
    rw [ho] at c0 HN HX
    clear ho
    go_enter Tryz.func114, Tryz.ntmps114
    go_wp2_with (go_at_call 94; refine (containsS_ok S names _ a.name _ HN.out).mono ?_; rintro e w' ⟨rfl, rfl⟩; rw [HB.out])
    go_ret
    exact ⟨rfl, HX.out⟩

/-- what is asked of the values inside -/
abbrev TakesOf (l : List Val) : Prop := ∀ x ∈ l, ∀ (t : Ty) (S : Nat → Prop) (w : World) (cx ct : List Value), (∀ b, S b → b < w.heap.size) → Val.At S w x cx → Ty.At S w t ct →
  Calls Tryz.prog 36 #[.agg cx.toArray, .agg ct.toArray] w fun e w' => e = .returned (.bool (t.takes x)) ∧ Ext w w'

set_option maxRecDepth 100000 in
set_option maxHeartbeats 4000000 in
theorem record_okC (k : Int) (bo : Bool) (i : Int) (t ut ui : ByteArray) (items : List Val) (names : List ByteArray) (hle : names.length ≤ items.length) (l : List Atr) (S : Nat → Prop) (w : World) (cs : List Value) (rv : Value) (hS : ∀ b, S b → b < w.heap.size)
    (hv : Val.At S w (.mk k bo i t ut ui items names) cs) (hl : atrR.RowsAt S w l rv) (ih : TakesOf items) :
    Calls Tryz.prog 79 #[.agg cs.toArray, rv] w fun e w' => e = .returned (.bool (recB l items names)) ∧ Ext w w' := by
  obtain ⟨k1, b1, n1, t1, ut1, ui1, A1, l1, c1, A2, l2, c2, rfl⟩ := hv.shape
  have hst := hv.strs
  have hvs := hv.vals
  obtain ⟨A, cap, e, hn0, hn1, hn2, _, hnr⟩ := id hst
  injection e with e1 e2 e3
  subst e1 e2 e3
  obtain ⟨A, cap, e, ⟨hi0, hi1, hi2⟩, hir⟩ := hvs
  injection e with e1 e2 e3
  subst e1 e2 e3
  obtain ⟨A3, c3, rfl, ⟨hr0, hr1, hr2⟩, _⟩ := id hl
  rw [LIM_eq] at hn0 hi0 hr0
  rw [maxLen_eq] at hn2 hi2 hr2
  have HS := Lib.hid hS
  have HL := Lib.hid hl
  have HNm := Lib.hid (strsAt_rows hst)
  have HNr := Lib.hid hnr
  have HIr := Lib.hid hir
  have IH := Lib.hid ih
  have HD : Hid (recB l items names = ((names.zip items).all (fun p => Atr.takes l p.1 p.2) && !(l.any (missB names)))) := Lib.hid (by rw [miss_any]; rfl)
  generalize recB l items names = res at *
  clear hv hl hst hnr hir ih hS
  go_enter Tryz.func79, Tryz.ntmps79
  go_wp2_with fail
  go_loopw [13] (fun c' wr => ∃ j : Nat, j ≤ names.length ∧ c' = .int .i64 j ∧ Hid (Ext w wr) ∧ Hid (wr.heap[w.heap.size]? = some (.cells #[.int .i64 k1, .bool b1, .int .i64 n1, .string t1, .string ut1, .string ui1, .slice A1 items.length c1, .slice A2 names.length c2] 35 (0, 0))) ∧
    Hid (∀ i n x, i < j → names[i]? = some n → items[i]? = some x → Atr.takes l n x = true)) (fun c' _ => names.length - (intOf c').toNat)
  case atStart => exact ⟨0, Nat.zero_le _, rfl, Lib.hid ((Ext.refl w).alloc _), Lib.hid (heap_alloc_new _ _), Lib.hid fun _ _ _ h => by omega⟩
  case round =>
    obtain ⟨j, hj, rfl, HX, HB, HA⟩ := hrel
    by_cases hlt : j < names.length
    · obtain ⟨nb, no, rfl, hSn, hrow⟩ := HNr.out (by omega)
      obtain ⟨n, hn⟩ : ∃ n, names[j]? = some n := ⟨_, List.getElem?_eq_getElem hlt⟩
      have cn : wr.cell? ⟨nb, no + j, none⟩ = some (.string n) := (hrow.alike hSn (Alike.of_ext HX.out HS.out)) j _ (by simp [hn])
      obtain ⟨x, hx⟩ : ∃ x, items[j]? = some x := ⟨_, List.getElem?_eq_getElem (by omega)⟩
      obtain ⟨ib, io, rfl, hSi, hirow⟩ := HIr.out (by omega)
      obtain ⟨cx, _, hcx, hxa⟩ := hirow.get hx
      have HCx := Lib.hid (hcx.alike hSi (Alike.of_ext HX.out HS.out))
      have HXa := Lib.hid (hxa.alike (Alike.of_ext HX.out HS.out))
      obtain ⟨xk, xb, xn, xt, xut, xui, xA, xl, xc, xB, xm, xd, rfl⟩ := hxa.shape
      have Hn := Lib.hid hn
      have Hx := Lib.hid hx
      have HSr := Lib.hid (show ∀ b, S b → b < wr.heap.size from fun b hb => Nat.lt_of_lt_of_le (HS.out b hb) HX.out.size)
      clear hn hx hrow hSn hirow hSi hcx hxa
      go_wp2_with fail
      refine (attr_ok S l _ n wr HSr.out (HL.out.alike (Alike.of_ext HX.out HS.out))).mono ?_
      rintro e w2 ⟨ca, rfl, hca, hx2⟩
      have HX2 := Lib.hid (HX.out.trans hx2)
      have HX2' := Lib.hid hx2
      rcases hca with ⟨hno, rfl⟩ | ⟨ia, a, hia, ha, hat⟩
      · rw [hno]
        have HNo := Lib.hid hno
        rw [show zeroAtr = [.string ByteArray.empty, .int .i64 0, .string ByteArray.empty, .slice none 0 0, .slice none 0 0, .bool false] from rfl]
        clear hno hx2 cn
        simp only [Option.isSome]
        go_wp2_with fail
        refine region_later (by kernel_rfl) (by kernel_rfl) ?_
        iterate 13 (go_big_quiet_step (fail))
        refine wpQuiet_nil ?_
        intro w4 hw4
        have HX4 := Lib.hid ((HX2.out.alloc _).trans hw4)
        clear hw4
        go_wp2_with fail
        go_ret
        exact ⟨ret_bool (by rw [HD.out, zip_not Hn.out Hx.out (takes_none HNo.out)]; rfl), HX4.out⟩
      · rw [hia]
        have HIa := Lib.hid hia
        have Ha := Lib.hid ha
        obtain ⟨Aa, la, ca, Ba, lb, cb, rfl, _, hta⟩ := hat.shape
        simp only [Option.isSome]
        obtain ⟨W, hW⟩ : ∃ W, W = w2.alloc (.cells #[.string a.name, .int .i64 a.ty.kind, .string a.ty.name, .slice Aa la ca, .slice Ba lb cb, .bool a.opt] 83) := ⟨_, rfl⟩
        have hxW : Ext w2 W := by rw [hW]; exact (Ext.refl w2).alloc _
        have hnew : W.heap[w2.heap.size]? = some (.cells #[.string a.name, .int .i64 a.ty.kind, .string a.ty.name, .slice Aa la ca, .slice Ba lb cb, .bool a.opt] 83 (0, 0)) := by rw [hW]; exact heap_alloc_new _ _
        have HSW := Lib.hid (show ∀ b, S b → b < W.heap.size from fun b hb => Nat.lt_of_lt_of_le (HSr.out b hb) (hx2.trans hxW).size)
        have hal : Alike S wr W := Alike.of_ext (hx2.trans hxW) HSr.out
        have hxaW := HXa.out.alike hal
        have htaW := Ty.At.alike (Alike.of_ext hxW fun b hb => Nat.lt_of_lt_of_le (HSr.out b hb) hx2.size) _ _ hta
        obtain ⟨tb, htb⟩ : ∃ tb, a.ty.takes x = tb := ⟨_, rfl⟩
        have HTb : Hid (Atr.takes l n x = tb) := Lib.hid (by rw [takes_some HIa.out Ha.out]; exact htb)
        have KV : Hid (∀ X, Ext W X → Calls Tryz.prog 36 #[.agg #[.int .i64 xk, .bool xb, .int .i64 xn, .string xt, .string xut, .string xui, .slice xA xl xc, .slice xB xm xd], .agg #[.int .i64 a.ty.kind, .string a.ty.name, .slice Aa la ca, .slice Ba lb cb]] X fun e w' => e = .returned (.bool tb) ∧ Ext X w') := Lib.hid fun X hX => by
          have h := IH.out x (List.mem_of_getElem? Hx.out) a.ty S X _ _ (fun b hb => Nat.lt_of_lt_of_le (HSW.out b hb) hX.size) (hxaW.alike (Alike.of_ext hX HSW.out)) (Ty.At.alike (Alike.of_ext hX HSW.out) _ _ htaW)
          rw [htb] at h
          exact h
        have hB := (hxW.block _ (Nat.lt_of_lt_of_le (Blk_lt HB.out) hx2.size)).trans ((hx2.block _ (Blk_lt HB.out)).trans HB.out)
        have g0 := cell_regrown (show W.cell? ⟨w.heap.size, 6, none⟩ = some (.slice (some ⟨ib, io, none⟩) items.length c1) from cell_of_row _ _ 6 _ _ _ hB)
        have hcW := HCx.out.alike (S := fun b => b < wr.heap.size) (block_lt_of_cell (HCx.out 0 _ rfl)) (Alike.of_ext (hx2.trans hxW) fun b hb => hb)
        have i0 := cell_regrown (show W.cell? ⟨ib, io + j * 8, none⟩ = some (.int .i64 xk) from hcW 0 _ rfl)
        have i1 := cell_regrown (show W.cell? ⟨ib, io + j * 8 + 1, none⟩ = some (.bool xb) from hcW 1 _ rfl)
        have i2 := cell_regrown (show W.cell? ⟨ib, io + j * 8 + 2, none⟩ = some (.int .i64 xn) from hcW 2 _ rfl)
        have i3 := cell_regrown (show W.cell? ⟨ib, io + j * 8 + 3, none⟩ = some (.string xt) from hcW 3 _ rfl)
        have i4 := cell_regrown (show W.cell? ⟨ib, io + j * 8 + 4, none⟩ = some (.string xut) from hcW 4 _ rfl)
        have i5 := cell_regrown (show W.cell? ⟨ib, io + j * 8 + 5, none⟩ = some (.string xui) from hcW 5 _ rfl)
        have i6 := cell_regrown (show W.cell? ⟨ib, io + j * 8 + 6, none⟩ = some (.slice xA xl xc) from hcW 6 _ rfl)
        have i7 := cell_regrown (show W.cell? ⟨ib, io + j * 8 + 7, none⟩ = some (.slice xB xm xd) from hcW 7 _ rfl)
        have a1 := cell_regrown (show W.cell? ⟨w2.heap.size, 1, none⟩ = some (.int .i64 a.ty.kind) from cell_of_row _ _ 1 _ _ _ hnew)
        have a2 := cell_regrown (show W.cell? ⟨w2.heap.size, 2, none⟩ = some (.string a.ty.name) from cell_of_row _ _ 2 _ _ _ hnew)
        have a3 := cell_regrown (show W.cell? ⟨w2.heap.size, 3, none⟩ = some (.slice Aa la ca) from cell_of_row _ _ 3 _ _ _ hnew)
        have a4 := cell_regrown (show W.cell? ⟨w2.heap.size, 4, none⟩ = some (.slice Ba lb cb) from cell_of_row _ _ 4 _ _ _ hnew)
        have a1' := cell_regrown (show W.cell? ⟨w2.heap.size, 1 + 1, none⟩ = some (.string a.ty.name) from cell_of_row _ _ 2 _ _ _ hnew)
        have a2' := cell_regrown (show W.cell? ⟨w2.heap.size, 1 + 2, none⟩ = some (.slice Aa la ca) from cell_of_row _ _ 3 _ _ _ hnew)
        have a3' := cell_regrown (show W.cell? ⟨w2.heap.size, 1 + 3, none⟩ = some (.slice Ba lb cb) from cell_of_row _ _ 4 _ _ _ hnew)
        have hBx := Lib.hid hB
        have HXW := Lib.hid (HX2.out.trans hxW)
        clear hia ha hat hta hxW hnew hal hxaW htaW htb hB hcW hx2 cn HSW
        subst hW
        go_wp2_with fail
        refine region_later (by kernel_rfl) (by kernel_rfl) ?_
        iterate 10 (go_big_quiet_step (fail))
        go_big_quiet_step ((go_at_call 36; exact later_call KV.out _ _))
        iterate 2 (go_big_quiet_step (fail))
        refine wpQuiet_nil ?_
        intro w4 hw4
        have HX4 := Lib.hid (HXW.out.trans hw4)
        have HB4 := Lib.hid ((hw4.block _ (Blk_lt hBx.out)).trans hBx.out)
        clear hw4 g0 i0 i1 i2 i3 i4 i5 i6 i7 a1 a2 a3 a4 a1' a2' a3'
        cases tb
        · go_wp2_with fail
          go_ret
          exact ⟨ret_bool (by rw [HD.out, zip_not Hn.out Hx.out HTb.out]; rfl), HX4.out⟩
        · go_wp2_with fail
          go_roundw
          case rel => exact ⟨j + 1, by omega, by go_num, HX4, HB4, Lib.hid fun i n' x' hi hn' hx' => by
            by_cases hij : i = j
            · subst hij
              rw [Hn.out] at hn'; cases hn'
              rw [Hx.out] at hx'; cases hx'
              exact HTb.out
            · exact HA.out i n' x' (by omega) hn' hx'⟩
          case measure => simp [intOf]; omega
    · have hje : j = names.length := by omega
      subst hje
      have HZ := Lib.hid (zip_all HA.out)
      have HSr := Lib.hid (show ∀ b, S b → b < wr.heap.size from fun b hb => Nat.lt_of_lt_of_le (HS.out b hb) HX.out.size)
      obtain ⟨mb, hmb⟩ : ∃ mb, l.any (missB names) = mb := ⟨_, rfl⟩
      have HM := Lib.hid hmb
      clear HA hmb
      go_wp2_with fail
      refine (containsFuncRA atrR rfl 114 #[.pointer (some ⟨w.heap.size, 0, none⟩)] (missB names) S l _ wr Tryz.enterRM HSr.out (HL.out.alike (Alike.of_ext HX.out HS.out)) (fun a _ ca w1 hw1 ha => miss1_ok names a S w1 ca w.heap.size _ _ _ _ _ _ _ _ ha (HNm.out.alike (Alike.of_ext (HX.out.trans hw1) HS.out)) (fun b hb => Nat.lt_of_lt_of_le (HSr.out b hb) hw1.size) ((hw1.block _ (Blk_lt HB.out)).trans HB.out))).mono ?_
      rintro e w3 ⟨rfl, hx3⟩
      rw [HM.out]
      have HX3 := Lib.hid (HX.out.trans hx3)
      clear hx3
      go_wp2_with fail
      go_ret
      exact ⟨ret_bool (by rw [HD.out, HZ.out, HM.out]; rfl), HX3.out⟩
end Go.Proofs.YtjllolagcdjlnaaGreat
