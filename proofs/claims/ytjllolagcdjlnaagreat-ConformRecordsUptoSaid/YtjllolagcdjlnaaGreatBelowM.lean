/-
  Is each value of one type of another one: what the document's Below answers. The conditions: of sets, what they hold is one; both lie in memory as they should.
-/
import Derived.Test.YtjllolagcdjlnaaGreatRefTM
namespace Go.Proofs.YtjllolagcdjlnaaGreat
open Go.RowKit

set_option maxRecDepth 100000 in
set_option maxHeartbeats 800000 in
theorem names_ok (S : Nat → Prop) (l m : List Atr) (v u : Value) (w : World) (hS : ∀ b, S b → b < w.heap.size) (hl : atrR.RowsAt S w l v) (hm : atrR.RowsAt S w m u) :
    Calls Tryz.prog 80 #[v, u] w fun e w' => e = .returned (.bool (decide (l.map Atr.name = m.map Atr.name))) ∧ Ext w w' := by
  obtain ⟨A, cap, rfl, ⟨hl0, hl1, hl2⟩, hlr⟩ := hl
  obtain ⟨B, capb, rfl, ⟨hm0, hm1, hm2⟩, hmr⟩ := hm
  rw [LIM_eq] at hl0 hm0
  rw [maxLen_eq] at hl2 hm2
  have HL := Lib.hid hlr
  have HM := Lib.hid hmr
  have HS := Lib.hid hS
  obtain ⟨res, hres⟩ : ∃ res, decide (l.map Atr.name = m.map Atr.name) = res := ⟨_, rfl⟩
  rw [hres]
  have HR := Lib.hid hres
  clear hlr hmr hres hS
  by_cases hn : l.length = m.length
  · go_enter Tryz.func80, Tryz.ntmps80
    have Hn := Lib.hid hn
    have e0 : ((l.length : Int) != (m.length : Int)) = false := by simp [hn]
    clear hn
    go_wp2_with fail
    go_loopw [5] (fun i wr => ∃ k : Nat, k ≤ l.length ∧ i = .int .i64 k ∧ Hid (Ext w wr) ∧ Hid (∀ i x y, i < k → l[i]? = some x → m[i]? = some y → x.name = y.name)) (fun i _ => l.length - (intOf i).toNat)
    case atStart => exact ⟨0, Nat.zero_le _, rfl, Lib.hid (Ext.refl w), Lib.hid fun _ _ _ h => by omega⟩
    case round =>
      obtain ⟨k, hk, rfl, HX, Hall⟩ := hrel
      by_cases hlt : k < l.length
      · have hkm : k < m.length := by have := Hn.out; omega
        obtain ⟨b, o, rfl, hSb, hrow⟩ := HL.out (by omega)
        obtain ⟨b2, o2, rfl, hSb2, hrow2⟩ := HM.out (by omega)
        obtain ⟨x, hx⟩ : ∃ x, l[k]? = some x := ⟨_, List.getElem?_eq_getElem hlt⟩
        obtain ⟨y, hy⟩ : ∃ y, m[k]? = some y := ⟨_, List.getElem?_eq_getElem hkm⟩
        obtain ⟨cs, hca, hxa⟩ := hrow k x hx
        obtain ⟨ds, hcb, hyb⟩ := hrow2 k y hy
        obtain ⟨_, _, _, _, _, _, rfl, _⟩ := Atr.At.shape hxa
        obtain ⟨_, _, _, _, _, _, rfl, _⟩ := Atr.At.shape hyb
        have c0 := cell_regrown (show wr.cell? ⟨b, o + k * 6, none⟩ = some (.string x.name) from (hca.alike hSb (Alike.of_ext HX.out HS.out)) 0 _ rfl)
        have c1 := cell_regrown (show wr.cell? ⟨b2, o2 + k * 6, none⟩ = some (.string y.name) from (hcb.alike hSb2 (Alike.of_ext HX.out HS.out)) 0 _ rfl)
        have Hx := Lib.hid hx
        have Hy := Lib.hid hy
        clear hx hy hrow hrow2 hSb hSb2 hca hcb hxa hyb
        go_wp2_with fail
        refine region_later (by kernel_rfl) (by kernel_rfl) ?_
        iterate 11 (go_big_quiet_step (fail))
        refine wpQuiet_nil ?_
        intro w4 hw4
        have HX4 := Lib.hid (HX.out.trans hw4)
        clear hw4 c0 c1
        go_wp2_with fail
        · have he : (!x.name.toList == y.name.toList) = true := by assumption
          have hxy : x.name ≠ y.name := fun e => by rw [e] at he; simp at he
          have HXY := Lib.hid hxy
          clear hxy
          go_ret
          exact ⟨ret_bool (by
            rw [← HR.out, eq_comm, decide_eq_false_iff_not]
            intro h
            have := congrArg (fun l => l[k]?) h
            simp only [List.getElem?_map, Hx.out, Hy.out, Option.map_some, Option.some.injEq] at this
            exact HXY.out this), HX4.out⟩
        · have he : (!x.name.toList == y.name.toList) = false := by assumption
          have hxy : x.name = y.name := by
            rw [toList_beq] at he
            simpa using he
          have HXY := Lib.hid hxy
          clear hxy
          go_roundw
          case rel => exact ⟨k + 1, by omega, by go_num, HX4, Lib.hid fun i p q hi hp hq => by
            by_cases hik : i = k
            · subst hik; rw [Hx.out] at hp; cases hp; rw [Hy.out] at hq; cases hq; exact HXY.out
            · exact Hall.out i p q (by omega) hp hq⟩
          case measure => simp [intOf]; omega
      · go_wp2_with fail
        go_ret
        have hke : k = l.length := by omega
        subst hke
        exact ⟨ret_bool (by
          rw [← HR.out, eq_comm, decide_eq_true_eq]
          apply List.ext_getElem?
          intro i
          rw [List.getElem?_map, List.getElem?_map]
          have := Hn.out
          by_cases hi : i < l.length
          · rw [List.getElem?_eq_getElem hi, List.getElem?_eq_getElem (by omega)]
            simp only [Option.map_some, Option.some.injEq]
            exact Hall.out i _ _ hi (List.getElem?_eq_getElem hi) (List.getElem?_eq_getElem (by omega))
          · rw [List.getElem?_eq_none (by omega), List.getElem?_eq_none (by omega)]), HX.out⟩
  · have e0 : ((l.length : Int) != (m.length : Int)) = true := by simp; omega
    have Hn := Lib.hid hn
    clear hn
    go_enter Tryz.func80, Tryz.ntmps80
    go_wp2_with fail
    go_ret
    exact ⟨ret_bool (by
      rw [← HR.out, eq_comm, decide_eq_false_iff_not]
      intro h
      have := congrArg List.length h
      simp only [List.length_map] at this
      exact Hn.out this), Ext.refl _⟩

theorem unders_eq : ∀ ts ts' : List Atr, Atr.unders ts ts' = (decide (ts.map Atr.name = ts'.map Atr.name) && (ts.zip ts').all fun p => p.1.ty.under p.2.ty && (!p.1.opt || p.2.opt))
  | [], [] => by simp [Atr.unders]
  | [], _ :: _ => by simp [Atr.unders]
  | _ :: _, [] => by simp [Atr.unders]
  | .mk n t o :: r, .mk n' t' o' :: s => by
    have e1 : Atr.unders (.mk n t o :: r) (.mk n' t' o' :: s) = ((decide (n = n') && (t.under t' && (!o || o'))) && Atr.unders r s) := by
      rw [Atr.unders, Atr.under1]
    rw [e1, unders_eq r s]
    simp only [List.map_cons, List.cons.injEq, List.zip_cons_cons, List.all_cons, Bool.decide_and, Atr.name, Atr.ty, Atr.opt]
    cases decide (n = n') <;> cases t.under t' <;> cases o <;> cases o' <;> cases decide (r.map Atr.name = s.map Atr.name) <;> simp

theorem ones_all : ∀ (l : List Ty), Ty.onesL l = true → ∀ x ∈ l, x.ones = true
  | [], _, _, h => by simp at h
  | t :: r, h, x, hx => by
    simp only [Ty.onesL, Bool.and_eq_true] at h
    rcases List.mem_cons.1 hx with rfl | hx
    · exact h.1
    · exact ones_all r h.2 x hx
theorem atrs_all : ∀ (l : List Atr), Atr.onesL l = true → ∀ x ∈ l, x.ty.ones = true
  | [], _, _, h => by simp at h
  | .mk n t o :: r, h, x, hx => by
    simp only [Atr.onesL, Atr.ones1, Bool.and_eq_true] at h
    rcases List.mem_cons.1 hx with rfl | hx
    · exact h.1
    · exact atrs_all r h.2 x hx
theorem ones_parts {k : Int} {n : ByteArray} {e : List Ty} {a : List Atr} (h : (Ty.mk k n e a).ones = true) : (k = 7 → e.length = 1) ∧ (∀ x ∈ e, x.ones = true) ∧ ∀ x ∈ a, x.ty.ones = true := by
  simp only [Ty.ones, Bool.and_eq_true, Bool.or_eq_true, decide_eq_true_eq, beq_iff_eq] at h
  exact ⟨fun hk => h.1.resolve_left fun h => h hk, ones_all e h.2.1, atrs_all a h.2.2⟩

theorem Atr.size_get {l : List Atr} {i : Nat} {x : Atr} (h : l[i]? = some x) : SizeOf.sizeOf x.ty < SizeOf.sizeOf l := by
  have h1 := List.sizeOf_lt_of_mem (List.mem_of_getElem? h)
  have h2 : SizeOf.sizeOf x.ty < SizeOf.sizeOf x := by cases x; simp [Atr.ty]; omega
  omega
theorem zip2_all {ts ts' : List Atr} {p : Atr × Atr → Bool} (h : ∀ i x y, i < ts.length → ts[i]? = some x → ts'[i]? = some y → p (x, y) = true) : (ts.zip ts').all p = true := by
  rw [List.all_eq_true]
  intro q hq
  obtain ⟨i, hi⟩ := List.mem_iff_getElem?.1 hq
  obtain ⟨x, y⟩ := q
  rw [List.getElem?_zip_eq_some] at hi
  exact h i x y (List.getElem?_eq_some_iff.1 hi.1).1 hi.1 hi.2
theorem zip2_not {ts ts' : List Atr} {p : Atr × Atr → Bool} {i : Nat} {x y : Atr} (hx : ts[i]? = some x) (hy : ts'[i]? = some y) (h : p (x, y) = false) : (ts.zip ts').all p = false := by
  rw [Bool.eq_false_iff]
  intro ht
  rw [List.all_eq_true] at ht
  have := ht (x, y) (List.mem_iff_getElem?.2 ⟨i, List.getElem?_zip_eq_some.2 ⟨hx, hy⟩⟩)
  rw [h] at this
  cases this

set_option maxRecDepth 100000 in
set_option maxHeartbeats 8000000 in
theorem below_ok (n : Nat) : ∀ (a b : Ty) (S : Nat → Prop) (w : World) (ca cb : List Value), SizeOf.sizeOf a ≤ n → a.ones = true → b.ones = true → (∀ b, S b → b < w.heap.size) → Ty.At S w a ca → Ty.At S w b cb →
    Calls Tryz.prog 37 #[.agg ca.toArray, .agg cb.toArray] w fun e w' => e = .returned (.bool (a.under b)) ∧ Ext w w' := by
  induction n with
  | zero => intro a; cases a; simp
  | succ n ih =>
    intro a b S w ca cb hn hoa hob hS ha hb
    obtain ⟨ak, an, ae, at'⟩ := a
    obtain ⟨bk, bn, be, bt⟩ := b
    obtain ⟨P, Pc, R, Rc, hct, _, hae, hat⟩ := Ty.At.parts ha
    obtain rfl : ca = [.int .i64 ak, .string an, .slice P ae.length Pc, .slice R at'.length Rc] := hct
    have hae : tyR.RowsAt S w ae (.slice P ae.length Pc) := hae
    have hat : atrR.RowsAt S w at' (.slice R at'.length Rc) := hat
    obtain ⟨T, Tc, V, Vc, hct, _, hbe, hbt⟩ := Ty.At.parts hb
    obtain rfl : cb = [.int .i64 bk, .string bn, .slice T be.length Tc, .slice V bt.length Vc] := hct
    have hbe : tyR.RowsAt S w be (.slice T be.length Tc) := hbe
    have hbt : atrR.RowsAt S w bt (.slice V bt.length Vc) := hbt
    obtain ⟨_, _, e, ⟨hp0, hp1, hp2⟩, hpr⟩ := id hae
    injection e with e1 e2 e3
    subst e1 e3
    obtain ⟨_, _, e, ⟨hr0, hr1, hr2⟩, hrr⟩ := id hat
    injection e with e1 e2 e3
    subst e1 e3
    obtain ⟨_, _, e, ⟨ht0, ht1, ht2⟩, htr⟩ := id hbe
    injection e with e1 e2 e3
    subst e1 e3
    obtain ⟨_, _, e, ⟨hv0, hv1, hv2⟩, hvr⟩ := id hbt
    injection e with e1 e2 e3
    subst e1 e3
    rw [LIM_eq] at hp0 hr0 ht0 hv0
    rw [maxLen_eq] at hp2 hr2 ht2 hv2
    have HT : Hid (Ty.under (.mk ak an ae at') (.mk bk bn be bt) = if ak = 0 ∨ (ak = 1 ∨ ak = 2) ∧ bk = 3 then true else if ak ≠ bk ∨ ak = 6 ∧ an ≠ bn then false else if ak = 7 then Ty.underE ae be else if ak ≠ 8 then true else Atr.unders at' bt) := Lib.hid (by rw [Ty.under])
    generalize Ty.under (.mk ak an ae at') (.mk bk bn be bt) = res at *
    have HS := Lib.hid hS
    have HPr := Lib.hid hpr
    have HRr := Lib.hid hrr
    have HTr := Lib.hid htr
    have HVr := Lib.hid hvr
    have HRt := Lib.hid hat
    have HVt := Lib.hid hbt
    have Hn := Lib.hid hn
    have IH := Lib.hid ih
    have hx0 := fun o1 o2 => ((Ext.refl w).alloc o1).alloc o2
    have HX0 := Lib.hid hx0
    have h1 : (ak = 7 → ae.length = 1) ∧ (∀ x ∈ ae, x.ones = true) ∧ ∀ x ∈ at', x.ty.ones = true := ones_parts hoa
    have h2 : (bk = 7 → be.length = 1) ∧ (∀ x ∈ be, x.ones = true) ∧ ∀ x ∈ bt, x.ty.ones = true := ones_parts hob
    have HO1 := Lib.hid h1
    have HO2 := Lib.hid h2
    clear hn hoa hob hS ha hb hae hat hbe hbt hpr hrr htr hvr ih hx0 h1 h2
    by_cases h0 : ak = 0
    · subst h0
      go_enter Tryz.func37, Tryz.ntmps37
      go_wp2_with fail
      go_ret
      exact ⟨ret_bool (by rw [HT.out]; simp), (HX0.out _ _)⟩
    have e0 : (ak == 0) = false := by simpa using h0
    by_cases h1 : ak = 1
    · subst h1
      by_cases h3 : bk = 3
      · subst h3
        go_enter Tryz.func37, Tryz.ntmps37
        go_wp2_with fail
        go_ret
        exact ⟨ret_bool (by rw [HT.out]; simp), (HX0.out _ _)⟩
      · have e3 : (bk == 3) = false := by simpa using h3
        by_cases hab : 1 = bk
        · subst hab
          clear h3 h0
          go_enter Tryz.func37, Tryz.ntmps37
          go_wp2_with fail
          go_ret
          exact ⟨ret_bool (by rw [HT.out]; simp), (HX0.out _ _)⟩
        · have e4 : ((1 : Int) != bk) = true := by simpa using hab
          have HN := Lib.hid (show ¬ (1 = bk) ∧ ¬ bk = 3 from ⟨hab, h3⟩)
          clear hab h3 h0
          go_enter Tryz.func37, Tryz.ntmps37
          go_wp2_with fail
          go_ret
          exact ⟨ret_bool (by rw [HT.out]; simp [HN.out]), (HX0.out _ _)⟩
    have e1 : (ak == 1) = false := by simpa using h1
    by_cases h2 : ak = 2
    · subst h2
      by_cases h3 : bk = 3
      · subst h3
        go_enter Tryz.func37, Tryz.ntmps37
        go_wp2_with fail
        go_ret
        exact ⟨ret_bool (by rw [HT.out]; simp), (HX0.out _ _)⟩
      · have e3 : (bk == 3) = false := by simpa using h3
        by_cases hab : 2 = bk
        · subst hab
          clear h3 h0
          go_enter Tryz.func37, Tryz.ntmps37
          go_wp2_with fail
          go_ret
          exact ⟨ret_bool (by rw [HT.out]; simp), (HX0.out _ _)⟩
        · have e4 : ((2 : Int) != bk) = true := by simpa using hab
          have HN := Lib.hid (show ¬ (2 = bk) ∧ ¬ bk = 3 from ⟨hab, h3⟩)
          clear hab h3 h0
          go_enter Tryz.func37, Tryz.ntmps37
          go_wp2_with fail
          go_ret
          exact ⟨ret_bool (by rw [HT.out]; simp [HN.out]), (HX0.out _ _)⟩
    have e2 : (ak == 2) = false := by simpa using h2
    have HT0 : Hid (res = if ak ≠ bk ∨ ak = 6 ∧ an ≠ bn then false else if ak = 7 then Ty.underE ae be else if ak ≠ 8 then true else Atr.unders at' bt) := Lib.hid (by rw [HT.out, if_neg (by omega)])
    clear HT
    by_cases hab : ak ≠ bk
    · have e4 : (ak != bk) = true := by simpa using hab
      have HN := Lib.hid hab
      clear hab h0 h1 h2
      go_enter Tryz.func37, Tryz.ntmps37
      go_wp2_with fail
      go_ret
      exact ⟨ret_bool (by rw [HT0.out]; simp [HN.out]), (HX0.out _ _)⟩
    obtain rfl : ak = bk := Decidable.byContradiction hab
    clear h0 h1 h2 hab
    by_cases h6 : ak = 6
    · subst h6
      clear e0 e1 e2
      go_enter Tryz.func37, Tryz.ntmps37
      go_wp2_with fail
      · have he : (!an.toList == bn.toList) = true := by assumption
        go_ret
        exact ⟨ret_bool (by
          rw [HT0.out]
          have : an ≠ bn := fun e => by rw [e] at he; simp at he
          simp [this]), (HX0.out _ _)⟩
      · have he : (!an.toList == bn.toList) = false := by assumption
        go_ret
        exact ⟨ret_bool (by
          rw [HT0.out]
          have : an = bn := by rw [toList_beq] at he; simpa using he
          simp [this]), (HX0.out _ _)⟩
    have e6 : (ak == 6) = false := by simpa using h6
    by_cases h7 : ak = 7
    · subst h7
      obtain ⟨x, rfl⟩ : ∃ x, ae = [x] := List.length_eq_one_iff.1 (HO1.out.1 rfl)
      obtain ⟨y, rfl⟩ : ∃ y, be = [y] := List.length_eq_one_iff.1 (HO2.out.1 rfl)
      obtain ⟨b, o, rfl, hSb, hrow⟩ := HPr.out (by simp)
      obtain ⟨b2, o2, rfl, hSb2, hrow2⟩ := HTr.out (by simp)
      obtain ⟨cx, hcx, hxa⟩ := hrow 0 x rfl
      obtain ⟨cy, hcy, hya⟩ := hrow2 0 y rfl
      obtain ⟨xA, xa, xB, xb, rfl, _⟩ := Ty.At.parts hxa
      obtain ⟨yA, ya, yB, yb, rfl, _⟩ := Ty.At.parts hya
      obtain ⟨hb0, hb1, hsz, hx⟩ := heapT2 w (.cells #[.int .i64 7, .string an, .slice (some ⟨b, o, none⟩) 1 Pc, .slice R at'.length Rc] 57) (.cells #[.int .i64 7, .string bn, .slice (some ⟨b2, o2, none⟩) 1 Tc, .slice V bt.length Vc] 57)
      obtain ⟨W, hW⟩ : ∃ W, W = ((w.alloc (.cells #[.int .i64 7, .string an, .slice (some ⟨b, o, none⟩) 1 Pc, .slice R at'.length Rc] 57)).alloc (.cells #[.int .i64 7, .string bn, .slice (some ⟨b2, o2, none⟩) 1 Tc, .slice V bt.length Vc] 57)) := ⟨_, rfl⟩
      rw [← hW] at hb0 hb1 hsz hx
      have hcx : CellsAt w b o [.int .i64 x.kind, .string x.name, .slice xA x.elem.length xa, .slice xB x.attrs.length xb] := by simpa [tyR] using hcx
      have hcy : CellsAt w b2 o2 [.int .i64 y.kind, .string y.name, .slice yA y.elem.length ya, .slice yB y.attrs.length yb] := by simpa [tyR] using hcy
      have hcx := hcx.alike hSb (Alike.of_ext hx HS.out)
      have hcy := hcy.alike hSb2 (Alike.of_ext hx HS.out)
      have x0 := cell_regrown (show W.cell? ⟨b, o, none⟩ = some (.int .i64 x.kind) from hcx 0 _ rfl)
      have x1 := cell_regrown (show W.cell? ⟨b, o + 1, none⟩ = some (.string x.name) from hcx 1 _ rfl)
      have x2 := cell_regrown (show W.cell? ⟨b, o + 2, none⟩ = some (.slice xA x.elem.length xa) from hcx 2 _ rfl)
      have x3 := cell_regrown (show W.cell? ⟨b, o + 3, none⟩ = some (.slice xB x.attrs.length xb) from hcx 3 _ rfl)
      have y0 := cell_regrown (show W.cell? ⟨b2, o2, none⟩ = some (.int .i64 y.kind) from hcy 0 _ rfl)
      have y1 := cell_regrown (show W.cell? ⟨b2, o2 + 1, none⟩ = some (.string y.name) from hcy 1 _ rfl)
      have y2 := cell_regrown (show W.cell? ⟨b2, o2 + 2, none⟩ = some (.slice yA y.elem.length ya) from hcy 2 _ rfl)
      have y3 := cell_regrown (show W.cell? ⟨b2, o2 + 3, none⟩ = some (.slice yB y.attrs.length yb) from hcy 3 _ rfl)
      have p0 := cell_regrown (show W.cell? ⟨w.heap.size, 2, none⟩ = some (.slice (some ⟨b, o, none⟩) 1 Pc) from cell_of_row _ _ 2 _ _ _ hb0)
      have p1 := cell_regrown (show W.cell? ⟨w.heap.size + 1, 2, none⟩ = some (.slice (some ⟨b2, o2, none⟩) 1 Tc) from cell_of_row _ _ 2 _ _ _ hb1)
      obtain ⟨tb, htb⟩ : ∃ tb, x.under y = tb := ⟨_, rfl⟩
      have HTb : Hid (res = tb) := Lib.hid (by rw [HT0.out, ← htb]; simp [Ty.underE])
      have KV : Hid (∀ X, Ext W X → Calls Tryz.prog 37 #[.agg #[.int .i64 x.kind, .string x.name, .slice xA x.elem.length xa, .slice xB x.attrs.length xb], .agg #[.int .i64 y.kind, .string y.name, .slice yA y.elem.length ya, .slice yB y.attrs.length yb]] X fun e w' => e = .returned (.bool tb) ∧ Ext X w') := Lib.hid fun X hX => by
        have hal := Alike.of_ext (hx.trans hX) HS.out
        have h := IH.out x y S X _ _ (by have := Hn.out; simp at this; omega) (HO1.out.2.1 x (by simp)) (HO2.out.2.1 y (by simp)) (fun b hb => Nat.lt_of_lt_of_le (HS.out b hb) (hx.trans hX).size) (Ty.At.alike hal _ _ hxa) (Ty.At.alike hal _ _ hya)
        rw [htb] at h
        exact h
      have HXW := Lib.hid hx
      clear hrow hrow2 hSb hSb2 hcx hcy hxa hya hb0 hb1 hsz hx htb e0 e1 e2 e6 h6
      subst hW
      go_enter Tryz.func37, Tryz.ntmps37
      go_wp2_with fail
      refine region_later (by kernel_rfl) (by kernel_rfl) ?_
      iterate 8 (go_big_quiet_step (fail))
      go_big_quiet_step ((go_at_call 37; exact later_call KV.out _ _))
      iterate 1 (go_big_quiet_step (fail))
      refine wpQuiet_nil ?_
      intro w4 hw4
      have HX4 := Lib.hid (HXW.out.trans hw4)
      clear hw4 p0 p1 x0 x1 x2 x3 y0 y1 y2 y3
      go_wp2_with fail
      go_ret
      exact ⟨ret_bool HTb.out.symm, HX4.out⟩
    have e7 : (ak == 7) = false := by simpa using h7
    by_cases h8 : ak = 8
    · subst h8
      clear e0 e1 e2 e6 e7 h6 h7
      have HT1 : Hid (res = (decide (at'.map Atr.name = bt.map Atr.name) && (at'.zip bt).all fun p => p.1.ty.under p.2.ty && (!p.1.opt || p.2.opt))) := Lib.hid (by rw [HT0.out, ← unders_eq]; simp)
      clear HT0
      go_enter Tryz.func37, Tryz.ntmps37
      go_wp2_with fail
      refine (names_ok S at' bt _ _ _ (fun b hb => Nat.lt_of_lt_of_le (HS.out b hb) (HX0.out _ _).size) (HRt.out.alike (Alike.of_ext (HX0.out _ _) HS.out)) (HVt.out.alike (Alike.of_ext (HX0.out _ _) HS.out))).mono ?_
      rintro e w1 ⟨rfl, hx1⟩
      have HX1 := Lib.hid ((HX0.out _ _).trans hx1)
      have HA1 : Hid (w1.heap[w.heap.size]? = some (.cells #[.int .i64 8, .string an, .slice P ae.length Pc, .slice R at'.length Rc] 57 (0, 0))) := Lib.hid ((hx1.block _ (by simp; omega)).trans (heapT2 w _ _).1)
      have HB1 : Hid (w1.heap[w.heap.size + 1]? = some (.cells #[.int .i64 8, .string bn, .slice T be.length Tc, .slice V bt.length Vc] 57 (0, 0))) := Lib.hid ((hx1.block _ (by simp)).trans (heapT2 w _ _).2.1)
      clear hx1
      by_cases hnm : at'.map Atr.name = bt.map Atr.name
      · rw [decide_eq_true hnm]
        have hlen : at'.length = bt.length := by simpa using congrArg List.length hnm
        have HT2 : Hid (res = (at'.zip bt).all fun p => p.1.ty.under p.2.ty && (!p.1.opt || p.2.opt)) := Lib.hid (by rw [HT1.out, decide_eq_true hnm]; simp)
        have HLen := Lib.hid hlen
        clear hnm hlen HT1
        have c1 : w1.cell? ⟨w.heap.size, 3, none⟩ = some (.slice R at'.length Rc) := cell_of_row _ _ 3 _ _ _ HA1.out
        go_wp2_with fail
        clear c1
        go_loopw [6] (fun i' wr => ∃ k : Nat, k ≤ at'.length ∧ i' = .int .i64 k ∧ Hid (Ext w wr) ∧ Hid (wr.heap[w.heap.size]? = some (.cells #[.int .i64 8, .string an, .slice P ae.length Pc, .slice R at'.length Rc] 57 (0, 0))) ∧ Hid (wr.heap[w.heap.size + 1]? = some (.cells #[.int .i64 8, .string bn, .slice T be.length Tc, .slice V bt.length Vc] 57 (0, 0))) ∧
          Hid (∀ i x y, i < k → at'[i]? = some x → bt[i]? = some y → (x.ty.under y.ty && (!x.opt || y.opt)) = true)) (fun i' _ => at'.length - (intOf i').toNat)
        case atStart => exact ⟨0, Nat.zero_le _, rfl, HX1, HA1, HB1, Lib.hid fun _ _ _ h => by omega⟩
        case round =>
          clear HX1 HA1 HB1
          obtain ⟨k, hk, rfl, HX, HA, HB, Hall⟩ := hrel
          have c1 : wr.cell? ⟨w.heap.size, 3, none⟩ = some (.slice R at'.length Rc) := cell_of_row _ _ 3 _ _ _ HA.out
          by_cases hlt : k < at'.length
          · have hkm : k < bt.length := by have := HLen.out; omega
            obtain ⟨b, o, rfl, hSb, hrow⟩ := HRr.out (by omega)
            obtain ⟨b2, o2, rfl, hSb2, hrow2⟩ := HVr.out (by omega)
            obtain ⟨x, hx⟩ : ∃ x, at'[k]? = some x := ⟨_, List.getElem?_eq_getElem hlt⟩
            obtain ⟨y, hy⟩ : ∃ y, bt[k]? = some y := ⟨_, List.getElem?_eq_getElem hkm⟩
            obtain ⟨cs, hca, hxa⟩ := hrow k x hx
            obtain ⟨ds, hcb, hyb⟩ := hrow2 k y hy
            obtain ⟨xA, xl, xa, xB, xm, xb, rfl, _, hxt⟩ := Atr.At.shape hxa
            obtain ⟨yA, yl, ya, yB, ym, yb, rfl, _, hyt⟩ := Atr.At.shape hyb
            have hcx : CellsAt wr b (o + k * 6) [.string x.name, .int .i64 x.ty.kind, .string x.ty.name, .slice xA xl xa, .slice xB xm xb, .bool x.opt] := hca.alike hSb (Alike.of_ext HX.out HS.out)
            have hcy : CellsAt wr b2 (o2 + k * 6) [.string y.name, .int .i64 y.ty.kind, .string y.ty.name, .slice yA yl ya, .slice yB ym yb, .bool y.opt] := hcb.alike hSb2 (Alike.of_ext HX.out HS.out)
            have x1 := cell_regrown (show wr.cell? ⟨b, o + k * 6 + 1, none⟩ = some (.int .i64 x.ty.kind) from hcx 1 _ rfl)
            have x2 := cell_regrown (show wr.cell? ⟨b, o + k * 6 + 2, none⟩ = some (.string x.ty.name) from hcx 2 _ rfl)
            have x3 := cell_regrown (show wr.cell? ⟨b, o + k * 6 + 3, none⟩ = some (.slice xA xl xa) from hcx 3 _ rfl)
            have x4 := cell_regrown (show wr.cell? ⟨b, o + k * 6 + 4, none⟩ = some (.slice xB xm xb) from hcx 4 _ rfl)
            have x2' := cell_regrown (show wr.cell? ⟨b, o + k * 6 + 1 + 1, none⟩ = some (.string x.ty.name) from hcx 2 _ rfl)
            have x3' := cell_regrown (show wr.cell? ⟨b, o + k * 6 + 1 + 2, none⟩ = some (.slice xA xl xa) from hcx 3 _ rfl)
            have x4' := cell_regrown (show wr.cell? ⟨b, o + k * 6 + 1 + 3, none⟩ = some (.slice xB xm xb) from hcx 4 _ rfl)
            have y1 := cell_regrown (show wr.cell? ⟨b2, o2 + k * 6 + 1, none⟩ = some (.int .i64 y.ty.kind) from hcy 1 _ rfl)
            have y2 := cell_regrown (show wr.cell? ⟨b2, o2 + k * 6 + 2, none⟩ = some (.string y.ty.name) from hcy 2 _ rfl)
            have y3 := cell_regrown (show wr.cell? ⟨b2, o2 + k * 6 + 3, none⟩ = some (.slice yA yl ya) from hcy 3 _ rfl)
            have y4 := cell_regrown (show wr.cell? ⟨b2, o2 + k * 6 + 4, none⟩ = some (.slice yB ym yb) from hcy 4 _ rfl)
            have y2' := cell_regrown (show wr.cell? ⟨b2, o2 + k * 6 + 1 + 1, none⟩ = some (.string y.ty.name) from hcy 2 _ rfl)
            have y3' := cell_regrown (show wr.cell? ⟨b2, o2 + k * 6 + 1 + 2, none⟩ = some (.slice yA yl ya) from hcy 3 _ rfl)
            have y4' := cell_regrown (show wr.cell? ⟨b2, o2 + k * 6 + 1 + 3, none⟩ = some (.slice yB ym yb) from hcy 4 _ rfl)
            have c2 := cell_regrown c1
            have c3 := cell_regrown (show wr.cell? ⟨w.heap.size + 1, 3, none⟩ = some (.slice (some ⟨b2, o2, none⟩) bt.length Vc) from cell_of_row _ _ 3 _ _ _ HB.out)
            obtain ⟨tb, htb⟩ : ∃ tb, x.ty.under y.ty = tb := ⟨_, rfl⟩
            have HTb := Lib.hid htb
            have KV : Hid (∀ X, Ext wr X → Calls Tryz.prog 37 #[.agg #[.int .i64 x.ty.kind, .string x.ty.name, .slice xA xl xa, .slice xB xm xb], .agg #[.int .i64 y.ty.kind, .string y.ty.name, .slice yA yl ya, .slice yB ym yb]] X fun e w' => e = .returned (.bool tb) ∧ Ext X w') := Lib.hid fun X hX => by
              have hal := Alike.of_ext (HX.out.trans hX) HS.out
              have h := IH.out x.ty y.ty S X _ _ (by have := Hn.out; have := Atr.size_get hx; simp at *; omega) (HO1.out.2.2 x (List.mem_of_getElem? hx)) (HO2.out.2.2 y (List.mem_of_getElem? hy)) (fun b hb => Nat.lt_of_lt_of_le (HS.out b hb) (HX.out.trans hX).size) (Ty.At.alike hal _ _ hxt) (Ty.At.alike hal _ _ hyt)
              rw [htb] at h
              exact h
            have Hx := Lib.hid hx
            have Hy := Lib.hid hy
            have HCx := Lib.hid hcx
            have HCy := Lib.hid hcy
            clear hrow hrow2 hSb hSb2 hca hcb hxa hyb hxt hyt hx hy hcx hcy htb
            go_wp2_with fail
            refine region_later (by kernel_rfl) (by kernel_rfl) ?_
            iterate 12 (go_big_quiet_step (fail))
            go_big_quiet_step ((go_at_call 37; exact later_call KV.out _ _))
            iterate 1 (go_big_quiet_step (fail))
            refine wpQuiet_nil ?_
            intro w4 hw4
            have HX4 := Lib.hid (HX.out.trans hw4)
            have HA4 := Lib.hid ((hw4.block _ (Blk_lt HA.out)).trans HA.out)
            have HB4 := Lib.hid ((hw4.block _ (Blk_lt HB.out)).trans HB.out)
            have d1 : w4.cell? ⟨w.heap.size, 3, none⟩ = some (.slice (some ⟨b, o, none⟩) at'.length Rc) := cell_of_row _ _ 3 _ _ _ HA4.out
            have d2 : w4.cell? ⟨w.heap.size + 1, 3, none⟩ = some (.slice (some ⟨b2, o2, none⟩) bt.length Vc) := cell_of_row _ _ 3 _ _ _ HB4.out
            obtain ⟨xo, hxo⟩ : ∃ xo, x.opt = xo := ⟨_, rfl⟩
            obtain ⟨yo, hyo⟩ : ∃ yo, y.opt = yo := ⟨_, rfl⟩
            have d3 : w4.cell? ⟨b, o + k * 6 + 5, none⟩ = some (.bool xo) := by rw [← hxo]; exact (hw4.toBelow.cell (block_lt_of_cell (HCx.out 5 _ rfl))).trans (HCx.out 5 _ rfl)
            have d4 : w4.cell? ⟨b2, o2 + k * 6 + 5, none⟩ = some (.bool yo) := by rw [← hyo]; exact (hw4.toBelow.cell (block_lt_of_cell (HCy.out 5 _ rfl))).trans (HCy.out 5 _ rfl)
            have HXo := Lib.hid hxo
            have HYo := Lib.hid hyo
            clear hw4 c1 c2 c3 x1 x2 x3 x4 x2' x3' x4' y1 y2 y3 y4 y2' y3' y4' hxo hyo
            obtain ⟨pb, hpb⟩ : ∃ pb, (tb && (!xo || yo)) = pb := ⟨_, rfl⟩
            have HPb : Hid ((x.ty.under y.ty && (!x.opt || y.opt)) = pb) := Lib.hid (by rw [HTb.out, HXo.out, HYo.out]; exact hpb)
            cases tb <;> cases xo <;> cases yo <;> (subst hpb; try (go_wp2_with fail)) <;> first
              | (go_roundw
                 case rel => exact ⟨k + 1, by omega, by go_num, HX4, HA4, HB4, Lib.hid fun i p q hi hp hq => by
                   by_cases hik : i = k
                   · subst hik; rw [Hx.out] at hp; cases hp; rw [Hy.out] at hq; cases hq; exact HPb.out
                   · exact Hall.out i p q (by omega) hp hq⟩
                 case measure => simp [intOf]; omega)
              | (go_ret
                 exact ⟨ret_bool (by rw [HT2.out, zip2_not Hx.out Hy.out HPb.out]), HX4.out⟩)
          · have hke : k = at'.length := by omega
            subst hke
            go_wp2_with fail
            go_ret
            exact ⟨ret_bool (by rw [HT2.out, zip2_all Hall.out]), HX.out⟩
      · rw [decide_eq_false hnm]
        have HNm := Lib.hid hnm
        clear hnm
        go_wp2_with fail
        go_ret
        exact ⟨ret_bool (by rw [HT1.out, decide_eq_false HNm.out]; rfl), HX1.out⟩
    · have e8 : (ak != 8) = true := by simpa using h8
      have HN := Lib.hid (show ¬ ak = 6 ∧ ¬ ak = 7 ∧ ¬ ak = 8 from ⟨h6, h7, h8⟩)
      clear h6 h7 h8
      go_enter Tryz.func37, Tryz.ntmps37
      go_wp2_with fail
      go_ret
      exact ⟨ret_bool (by rw [HT0.out]; simp [HN.out]), (HX0.out _ _)⟩
end Go.Proofs.YtjllolagcdjlnaaGreat
