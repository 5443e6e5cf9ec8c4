/-
  What the program's evaluation does of several expressions. The conditions: what is handed in lies in memory as it should.
-/
import Derived.Test.YtebfoimbdljbmaaGreatDoorEvBQ
import Derived.Test.YtebfoimbdljbmaaGreatDoorGf
namespace Go.Proofs.YtebfoimbdljbmaaGreatDoor
open Go.RowKit
open Lib renaming hid → q_
set_option maxRecDepth 100000
set_option maxHeartbeats 4000000
theorem someE_ok {A : Int → Prop} {q : Req} {c : List Ent} {n : Nat} (ih : EvOf A q c n) (e : Exp) (g : Nat) (w : World) (cs : List Value) (kind : Int) (hn : SizeOf.sizeOf e ≤ n) (hl : e.fine A) (hr : Rk q c w g) (he : InX w e cs) :
  Calls Tryz.prog 88 #[.pointer (some ⟨g, 0, none⟩), .agg cs.toArray, .int .i64 kind] w (zb0 (zeg (e.ev q c) kind).1 (zeg (e.ev q c) kind).2 w) := by
 have IH := q_ (fun W (hx : Ext w W) => ih e g W cs hn hl (hr.ext hx) (he.ext hx))
 generalize e.ev q c = r at *
 obtain ⟨x, er⟩ := r
 obtain ⟨eo, ev, en, eks, ens⟩ := e
 obtain ⟨lk, lb, ln, ls, lt, lu, lA, ll, lc, lB, lm, ld, eK, ec, eN, ed, hcs, _, hev, hek, hen⟩ := Exp.At.shape he
 obtain rfl : cs = [.int .i64 eo, .int .i64 lk, .bool lb, .int .i64 ln, .string ls, .string lt, .string lu, .slice lA ll lc, .slice lB lm ld, .string en, .slice eK eks.length ec, .slice eN ens.length ed] := hcs
 have hev : InW w ev [.int .i64 lk, .bool lb, .int .i64 ln, .string ls, .string lt, .string lu, .slice lA ll lc, .slice lB lm ld] := hev
 have hek : expR.RowsAt (fun b => b < w.heap.size) w eks (.slice eK eks.length ec) := hek
 have hen : StrsAt (fun b => b < w.heap.size) w ens (.slice eN ens.length ed) := hen
 obtain ⟨res, hres⟩ : ∃ res, zeg (x, er) kind = res := ⟨_, rfl⟩
 have HD := q_ hres
 rw [hres]
 obtain ⟨p0, p1, ps, px⟩ := zdr w (.cells #[.int .i64 eo, .int .i64 lk, .bool lb, .int .i64 ln, .string ls, .string lt, .string lu, .slice lA ll lc, .slice lB lm ld, .string en, .slice eK eks.length ec, .slice eN ens.length ed] 30) (.cells zeroCells.toArray 27)
 have HE0 := q_ p0
 have HR0 := q_ p1
 have HX0 := q_ px
 clear p0 p1 ps px
 clear hl hr he hev hek hen hn ih hres
 go_enter Tryz.func88, Tryz.ntmps88
 go_wp2_with (first | refine zab rfl 30 _ rfl w.heap.size 0 rfl zar zao (cs := [.int .i64 eo, .int .i64 lk, .bool lb, .int .i64 ln, .string ls, .string lt, .string lu, .slice lA ll lc, .slice lB lm ld, .string en, .slice eK eks.length ec, .slice eN ens.length ed]) rfl (zak HE0.out) ?_)
 refine (IH.out _ HX0.out).mono ?_
 rintro e1 w1 ⟨cv, rfl, hv, hx1⟩
 obtain ⟨xk, xb, xn, xs, xt, xu, xi, xm⟩ := x
 obtain ⟨xA, xc, xB, xd, rfl⟩ := hv.opened
 have HX1 := q_ (HX0.out.trans hx1)
 have HR1 := q_ ((hx1.block _ (zaf HR0.out)).trans HR0.out)
 have HV := q_ hv
 have HR2 := q_ ((heap_alloc_old w1 (.cells #[.int .i64 xk, .bool xb, .int .i64 xn, .string xs, .string xt, .string xu, .slice xA xi.length xc, .slice xB xm.length xd] 27) (zaf HR1.out)).trans HR1.out)
 have HX2 := q_ (HX1.out.alloc (.cells #[.int .i64 xk, .bool xb, .int .i64 xn, .string xs, .string xt, .string xu, .slice xA xi.length xc, .slice xB xm.length xd] 27))
 have hx2 := (Ext.refl w1).alloc (.cells #[.int .i64 xk, .bool xb, .int .i64 xn, .string xs, .string xt, .string xu, .slice xA xi.length xc, .slice xB xm.length xd] 27)
 have HX12 := q_ hx2
 clear hv hx1 hx2 HX1 HR1
 by_cases h0 : er = 0
 ·subst h0
  by_cases hk : xk = kind
  ·subst hk
   have hh : res = ((Val.mk xk xb xn xs xt xu xi xm), 0) := by rw [← HD.out]; simp [zeg, Val.kind]
   subst hh
   go_wp2_with (refine zad rfl 27 _ _ rfl (w.heap.size + 1) 0 rfl [.int .i64 xk, .bool xb, .int .i64 xn, .string xs, .string xt, .string xu, .slice xA xi.length xc, .slice xB xm.length xd] rfl zaa rfl 27 zeroCells.toArray HR2.out (by simp [zeroCells]) HV.out.one ?_)
   exact bodyPost_ret (v := .tuple #[.agg (show List Value from [.int .i64 xk, .bool xb, .int .i64 xn, .string xs, .string xt, .string xu, .slice xA xi.length xc, .slice xB xm.length xd]).toArray, .int .i64 0]) (zah Tryz.results88 rfl zae zaa rfl (zai HR2.out (by simp [zeroCells]))) rfl ⟨[.int .i64 xk, .bool xb, .int .i64 xn, .string xs, .string xt, .string xu, .slice xA xi.length xc, .slice xB xm.length xd], rfl, ret_at HV.out HX12.out (by simp) (by simp <;> omega) _, HX2.out.setRow (by omega) _⟩
  ·have e1 : (xk != kind) = true := by simpa using hk
   have hh : res = (.zero, 30) := by rw [← HD.out]; simp [zeg, Val.kind, hk, no]
   subst hh
   clear hk
   go_wp2_with (refine zad rfl 27 _ _ rfl (w.heap.size + 1) 0 rfl zeroCells rfl zaa rfl 27 zeroCells.toArray HR2.out (by simp [zeroCells]) za2 ?_)
   exact bodyPost_ret (v := .tuple #[.agg (show List Value from zeroCells).toArray, .int .i64 30]) (zah Tryz.results88 rfl zae zaa rfl (zai HR2.out (by simp [zeroCells]))) rfl ⟨zeroCells, rfl, Val.zero_at _ _, HX2.out.setRow (by omega) _⟩
 ·have e0 : (er == 0) = false := by simpa using h0
  have e1 : (er != 0) = true := by simpa using h0
  have hh : res = (.zero, er) := by rw [← HD.out]; simp [zeg, h0, no]
  subst hh
  clear h0
  go_wp2_with (refine zad rfl 27 _ _ rfl (w.heap.size + 1) 0 rfl zeroCells rfl zaa rfl 27 zeroCells.toArray HR2.out (by simp [zeroCells]) za2 ?_)
  exact bodyPost_ret (v := .tuple #[.agg (show List Value from zeroCells).toArray, .int .i64 er]) (zah Tryz.results88 rfl zae zaa rfl (zai HR2.out (by simp [zeroCells]))) rfl ⟨zeroCells, rfl, Val.zero_at _ _, HX2.out.setRow (by omega) _⟩
theorem allV_snoc : ∀ {l : List Rs} {ys : List Val} {r : Rs}, zda l = (ys, 0) → r.2 = 0 → zda (l ++ [r]) = (ys ++ [r.1], 0)
 | [], ys, r, h, hr => by
  simp [zda] at h
  subst h
  simp [zda, hr]
 | a :: l, ys, r, h, hr => by
  unfold zda at h
  split at h
  ·rename_i h1; injection h with _ h2; exact absurd h2 h1
  ·rename_i h1
   have h1 : a.2 = 0 := Decidable.byContradiction h1
   split at h
   ·rename_i h2; injection h with _ h3; exact absurd h3 h2
   ·rename_i h2
    have h2 : (zda l).2 = 0 := Decidable.byContradiction h2
    injection h with h3 _
    have ih := allV_snoc (l := l) (ys := (zda l).1) (r := r) (by rw [← h2]) hr
    rw [List.cons_append]
    unfold zda
    rw [if_neg (by simp [h1]), ih]
    simp [← h3]
theorem allV_badAt : ∀ {l : List Rs} {ys : List Val} {r : Rs} {t : List Rs}, zda l = (ys, 0) → r.2 ≠ 0 → zda (l ++ r :: t) = ([], r.2)
 | [], _, r, t, _, hr => by
  rw [List.nil_append]
  unfold zda
  rw [if_pos hr]
 | a :: l, ys, r, t, h, hr => by
  unfold zda at h
  split at h
  ·rename_i h1; injection h with _ h2; exact absurd h2 h1
  ·rename_i h1
   have h1 : a.2 = 0 := Decidable.byContradiction h1
   split at h
   ·rename_i h2; injection h with _ h3; exact absurd h3 h2
   ·rename_i h2
    have h2 : (zda l).2 = 0 := Decidable.byContradiction h2
    have ih := allV_badAt (l := l) (ys := (zda l).1) (r := r) (t := t) (by rw [← h2]) hr
    rw [List.cons_append]
    unfold zda
    rw [if_neg (by simp [h1]), ih, if_pos hr]
theorem allV_length : ∀ {l : List Rs} {ys : List Val}, zda l = (ys, 0) → ys.length = l.length
 | [], ys, h => by simp [zda] at h; subst h; rfl
 | a :: l, ys, h => by
  unfold zda at h
  split at h
  ·rename_i h1; injection h with _ h2; exact absurd h2 h1
  ·split at h
   ·rename_i h2; injection h with _ h3; exact absurd h3 h2
   ·rename_i h2
    have h2 : (zda l).2 = 0 := Decidable.byContradiction h2
    injection h with h3 _
    rw [← h3, List.length_cons, List.length_cons, allV_length (l := l) (ys := (zda l).1) (by rw [← h2])]
theorem allE_ok {A : Int → Prop} {q : Req} {c : List Ent} {n : Nat} (ih : EvOf A q c n) (l : List Exp) (g : Nat) (w : World) (v : Value) (hn : ∀ x ∈ l, SizeOf.sizeOf x ≤ n) (hl : ∀ x ∈ l, x.fine A) (hr : Rk q c w g) (hv : expR.RowsAt (fun b => b < w.heap.size) w l v) :
  Calls Tryz.prog 60 #[.pointer (some ⟨g, 0, none⟩), v] w (RowErr (zda (l.map (Exp.ev q c))).1 (zda (l.map (Exp.ev q c))).2 w) := by
 obtain ⟨A, cap, rfl, ⟨hk0, hk1, hk2⟩, hkr⟩ := hv
 rw [zaq] at hk0
 rw [zaj] at hk2
 obtain ⟨res, hres⟩ : ∃ res, zda (l.map (Exp.ev q c)) = res := ⟨_, rfl⟩
 have HD := q_ hres
 rw [hres]
 obtain ⟨i0, hi, hz0, hz1, hz2⟩ := info_parts zdd
 have HK := q_ hkr
 have HN := q_ hn
 have HL := q_ hl
 have IH := q_ ih
 have HRk := q_ hr
 clear hkr hn hl ih hr hres
 go_enter Tryz.func60, Tryz.ntmps60
 go_wp2_with fail
 go_loopw [6, 13] (fun u i wr => ∃ k : Nat, k ≤ l.length ∧ i = .int .i64 k ∧ Ext w wr ∧ Hid (∃ ys xs, zda ((l.take k).map (Exp.ev q c)) = (ys, 0) ∧ wr.ownsRow w.heap.size 27 8 u ys.length xs ∧ Flat (Made w.heap.size wr u) wr ys xs)) (fun _ i _ => l.length - (intOf i).toNat)
 case atStart => exact ⟨0, Nat.zero_le _, rfl, Ext.refl w, [], [], by simp [zda], World.ownsRow_nil _ _ _ _, rfl⟩
 case round =>
  obtain ⟨k, hk, rfl, hext, Hown⟩ := hrel
  have HX := q_ hext
  clear hext
  by_cases hlt : k < l.length
  ·obtain ⟨b, o, rfl, hSb, hrow⟩ := HK.out (by omega)
   obtain ⟨x, hx⟩ : ∃ x, l[k]? = some x := ⟨_, List.getElem?_eq_getElem hlt⟩
   obtain ⟨cx, hcx, hxa⟩ := hrow k x hx
   obtain ⟨z1, z2, z3, z4, z5, z6, z7, z8, z9, za, zb, zc, zd, ze, zf, zg, hcs, _⟩ := Exp.At.shape hxa
   subst hcs
   have hcx : CellsAt w b (o + k * 12) [.int .i64 x.op, .int .i64 z1, .bool z2, .int .i64 z3, .string z4, .string z5, .string z6, .slice z7 z8 z9, .slice za zb zc, .string x.name, .slice zd x.kids.length ze, .slice zf x.names.length zg] := hcx
   have Hcx := q_ (hcx.alike hSb (Alike.of_ext HX.out fun _ h => h))
   have Hxa := q_ (InX.ext (e := x) hxa (HX.out.alloc (.cells #[.int .i64 x.op, .int .i64 z1, .bool z2, .int .i64 z3, .string z4, .string z5, .string z6, .slice z7 z8 z9, .slice za zb zc, .string x.name, .slice zd x.kids.length ze, .slice zf x.names.length zg] 30)))
   have Hx := q_ hx
   have hih := IH.out x g _ [.int .i64 x.op, .int .i64 z1, .bool z2, .int .i64 z3, .string z4, .string z5, .string z6, .slice z7 z8 z9, .slice za zb zc, .string x.name, .slice zd x.kids.length ze, .slice zf x.names.length zg] (HN.out x (List.mem_of_getElem? hx)) (HL.out x (List.mem_of_getElem? hx)) (HRk.out.ext (HX.out.alloc (.cells #[.int .i64 x.op, .int .i64 z1, .bool z2, .int .i64 z3, .string z4, .string z5, .string z6, .slice z7 z8 z9, .slice za zb zc, .string x.name, .slice zd x.kids.length ze, .slice zf x.names.length zg] 30))) Hxa.out
   have HIH := q_ hih
   clear hx hxa hcx hrow hSb hih
   go_wp2_with (refine zab rfl 30 _ rfl b (o + k * 12) rfl zar zao rfl Hcx.out ?_)
   refine HIH.out.mono ?_
   rintro e w1 ⟨cv, rfl, hy, hx1⟩
   obtain ⟨⟨y, er⟩, hr⟩ : ∃ r, x.ev q c = r := ⟨_, rfl⟩
   rw [hr] at hy ⊢
   have HRe := q_ hr
   have Hy := q_ hy
   have HX1 := q_ hx1
   clear hy hx1 hr
   obtain ⟨k3, b3, n3, t3, ut3, ui3, A3, l3, c3, A4, l4, c4, rfl⟩ := Hy.out.shape
   by_cases he : er = 0
   ·subst he
    obtain ⟨ys0, xs, hcans, hown, hflat⟩ := Hown.out
    have Hc := q_ hcans
    have Ho := q_ hown
    have Hf := q_ hflat
    have hlen : ys0.length = k := by
     have h1 := allV_length hcans
     simpa [List.length_take, Nat.min_eq_left hk] using h1
    have hbd : ys0.length + 1 ≤ 1073741824 := by omega
    have Hle := q_ hlen
    clear hcans hown hflat hlen Hown
    go_wp2_with (at_builtin; refine zbe rfl (.tmp 26) (.tmp 28) 24 rfl w.heap.size 27 i0 (.agg zeroCells.toArray) 8 120 Tryz.underlying24 hi hz0 hz1 hz2 rfl (by decide) _ ys0.length xs rfl (zam Ho.out ((((Ext.refl wr).alloc _).trans HX1.out).alloc _ |>.alloc _)) (w1.heap.size + 1) 0 1 1 [.int .i64 k3, .bool b3, .int .i64 n3, .string t3, .string ut3, .string ui3, .slice A3 l3 c3, .slice A4 l4 c4] rfl rfl (zay _ _ (by simp)) Hy.out.one (by rw [zaj]; omega) (by omega) (((HX.out.alloc _).trans HX1.out).alloc _ |>.alloc _).size ?_)
    intro v' w2 hown' hgrow hblk
    have Ho' := q_ hown'
    have Hg := q_ hgrow
    have Hb := q_ hblk
    clear hown' hgrow hblk
    go_wp2_with fail
    go_roundw
    case rel =>
     refine ⟨k + 1, by omega, by go_num, zb8 (((HX.out.alloc _).trans HX1.out).alloc _ |>.alloc _) (zam Ho.out ((((Ext.refl wr).alloc _).trans HX1.out).alloc _ |>.alloc _)) Hg.out, ys0 ++ [y], _, ?_, by rw [List.length_append]; exact Ho'.out, ?_⟩
     ·rw [zbk Hx.out, List.map_append, List.map_cons, List.map_nil, HRe.out]; exact allV_snoc Hc.out rfl
     ·exact flat_step Ho.out Hf.out (((Ext.refl wr).alloc _).trans HX1.out) (((Ext.refl w1).alloc _).alloc _) (by simp) HX.out.size Hy.out Hg.out (by simpa using Hb.out)
    case measure => simp [intOf]; omega
   ·have e0 : (er != 0) = true := by simpa using he
    have He := q_ he
    clear he
    go_wp2_with fail
    go_ret2
    obtain ⟨ys0, xs, hcans, _, _⟩ := Hown.out
    have hbad : zda (l.map (Exp.ev q c)) = ([], er) := by
     have h := allV_badAt (r := x.ev q c) (t := (l.drop (k + 1)).map (Exp.ev q c)) hcans (by rw [HRe.out]; exact He.out)
     rw [← List.map_cons, ← List.map_append, zcf Hx.out, HRe.out] at h
     exact h
    obtain rfl : res = ([], er) := by rw [← HD.out, hbad]
    exact ⟨_, rfl, ⟨[], World.ownsRow_nil _ _ _ _, rfl⟩, ((HX.out.alloc _).trans HX1.out).alloc _⟩
  ·have hke : k = l.length := by omega
   subst hke
   obtain ⟨ys0, xs, hcans, hown, hflat⟩ := Hown.out
   rw [List.take_length] at hcans
   have Hc := q_ hcans
   have Ho := q_ hown
   have Hf := q_ hflat
   clear hcans hown hflat Hown
   go_wp2_with fail
   go_ret2
   obtain rfl : res = (ys0, 0) := by rw [← HD.out, Hc.out]
   exact ⟨_, rfl, ⟨xs, Ho.out, Hf.out⟩, HX.out⟩
theorem choiceE_ok4 {A : Int → Prop} {q : Req} {c : List Ent} {n : Nat} (ih : EvOf A q c n) (ev : Val) (en : ByteArray) (k0 k1 : Exp) (ens : List ByteArray) (g : Nat) (w : World) (cs : List Value) (hn : ∀ x ∈ [k0, k1], SizeOf.sizeOf x ≤ n) (hl : ∀ x ∈ [k0, k1], x.fine A) (hr : Rk q c w g) (he : InX w (.mk 4 ev en [k0, k1] ens) cs) :
  Calls Tryz.prog 59 #[.pointer (some ⟨g, 0, none⟩), .agg cs.toArray] w (zb0 (zdp 4 (k0.ev q c) (k1.ev q c) (no 1)).1 (zdp 4 (k0.ev q c) (k1.ev q c) (no 1)).2 w) := by
 obtain ⟨lk, lb, ln, ls, lt, lu, lA, ll, lc, lB, lm, ld, eK, ec, eN, ed, hcs, _, hev, hek, hen⟩ := Exp.At.shape he
 obtain rfl : cs = [.int .i64 4, .int .i64 lk, .bool lb, .int .i64 ln, .string ls, .string lt, .string lu, .slice lA ll lc, .slice lB lm ld, .string en, .slice eK ([k0, k1] : List Exp).length ec, .slice eN ens.length ed] := hcs
 have hek : expR.RowsAt (fun b => b < w.heap.size) w [k0, k1] (.slice eK ([k0, k1] : List Exp).length ec) := hek
 obtain ⟨_, _, eq0, ⟨hk0, hk1, hk2⟩, hkr⟩ := hek
 injection eq0 with eq1 eq2 eq3
 subst eq1 eq3
 rw [zaj] at hk2
 have HK := q_ hkr
 have IH := q_ ih
 have HN := q_ hn
 have HL := q_ hl
 have HRk := q_ hr
 obtain ⟨res, hres⟩ : ∃ res, zdp 4 (k0.ev q c) (k1.ev q c) (no 1) = res := ⟨_, rfl⟩
 have HD := q_ hres
 rw [hres]
 obtain ⟨p0, p1, ps, px⟩ := zdr w (.cells #[.int .i64 4, .int .i64 lk, .bool lb, .int .i64 ln, .string ls, .string lt, .string lu, .slice lA ll lc, .slice lB lm ld, .string en, .slice eK ([k0, k1] : List Exp).length ec, .slice eN ens.length ed] 30) (.cells zeroCells.toArray 27)
 have HE0 := q_ p0
 have HR0 := q_ p1
 have HX0 := q_ px
 have d10 : ((w.alloc (.cells #[.int .i64 4, .int .i64 lk, .bool lb, .int .i64 ln, .string ls, .string lt, .string lu, .slice lA ll lc, .slice lB lm ld, .string en, .slice eK ([k0, k1] : List Exp).length ec, .slice eN ens.length ed] 30)).alloc (.cells zeroCells.toArray 27)).cell? ⟨w.heap.size, 10, none⟩ = some (.slice eK ([k0, k1] : List Exp).length ec) := cell_of_row _ _ 10 _ _ _ p0
 clear hn hl hr he hev hen ih hres hkr eq2 p0 p1 ps px
 obtain ⟨b, o, eA, hSb, hrow⟩ := HK.out (by simp)
 subst eA
 have Hb := q_ hSb
 obtain ⟨cx0, hcx0, hxa0⟩ := hrow 0 k0 rfl
 have hcl0 : cx0.length = 12 := Exp.At.length hxa0
 have hcx0 : CellsAt w b (o + 0 * 12) cx0 := hcx0
 have Hcx0 := q_ hcx0
 have Hxa0 := q_ (show InX w k0 cx0 from hxa0)
 have Hcl0 := q_ hcl0
 obtain ⟨cx1, hcx1, hxa1⟩ := hrow 1 k1 rfl
 have hcl1 : cx1.length = 12 := Exp.At.length hxa1
 have hcx1 : CellsAt w b (o + 1 * 12) cx1 := hcx1
 have Hcx1 := q_ hcx1
 have Hxa1 := q_ (show InX w k1 cx1 from hxa1)
 have Hcl1 := q_ hcl1
 have HL0 := q_ (HL.out k0 (by simp))
 have HN0 := q_ (HN.out k0 (by simp))
 have hs0 := someE_ok IH.out k0 g _ cx0 1 HN0.out HL0.out (HRk.out.ext HX0.out) (Hxa0.out.ext HX0.out)
 obtain ⟨⟨y, e0⟩, hs⟩ : ∃ r, zeg (k0.ev q c) 1 = r := ⟨_, rfl⟩
 rw [hs] at hs0
 have HS0 := q_ hs0
 have Hs := q_ hs
 clear hs0 hs hrow hSb hcx0 hxa0 hcl0 hcx1 hxa1 hcl1
 go_enter Tryz.func59, Tryz.ntmps59
 go_wp2_with (first | refine zab rfl 30 _ rfl b (o + 0 * 12) rfl zar zao Hcl0.out (Hcx0.out.alike (S := fun b => b < w.heap.size) Hb.out (Alike.of_ext HX0.out fun _ h => h)) ?_)
 refine HS0.out.mono ?_
 clear d10
 rintro e1 w1 ⟨cv, rfl, hv, hx1⟩
 obtain ⟨yk, yb, yn, ys, yt, yu, yi, ym⟩ := y
 obtain ⟨yA, yc, yB, yd, rfl⟩ := hv.opened
 have HX1 := q_ (HX0.out.trans hx1)
 have HR1 := q_ ((hx1.block _ (zaf HR0.out)).trans HR0.out)
 have HE1 := q_ ((hx1.block _ (zaf HE0.out)).trans HE0.out)
 have Hlow := q_ (show w.heap.size + 2 ≤ w1.heap.size from by have := zaf HR1.out; omega)
 have HV := q_ hv
 have HR2 := q_ ((heap_alloc_old w1 (.cells #[.int .i64 yk, .bool yb, .int .i64 yn, .string ys, .string yt, .string yu, .slice yA yi.length yc, .slice yB ym.length yd] 27) (zaf HR1.out)).trans HR1.out)
 have HE2 := q_ ((heap_alloc_old w1 (.cells #[.int .i64 yk, .bool yb, .int .i64 yn, .string ys, .string yt, .string yu, .slice yA yi.length yc, .slice yB ym.length yd] 27) (zaf HE1.out)).trans HE1.out)
 have HX2 := q_ (HX1.out.alloc (.cells #[.int .i64 yk, .bool yb, .int .i64 yn, .string ys, .string yt, .string yu, .slice yA yi.length yc, .slice yB ym.length yd] 27))
 have HX12 := q_ ((Ext.refl w1).alloc (.cells #[.int .i64 yk, .bool yb, .int .i64 yn, .string ys, .string yt, .string yu, .slice yA yi.length yc, .slice yB ym.length yd] 27))
 have c0 : (w1.alloc (.cells #[.int .i64 yk, .bool yb, .int .i64 yn, .string ys, .string yt, .string yu, .slice yA yi.length yc, .slice yB ym.length yd] 27)).cell? ⟨w.heap.size, 0, none⟩ = some (.int .i64 4) := cell_of_row _ _ 0 _ _ _ HE2.out
 have c10 : (w1.alloc (.cells #[.int .i64 yk, .bool yb, .int .i64 yn, .string ys, .string yt, .string yu, .slice yA yi.length yc, .slice yB ym.length yd] 27)).cell? ⟨w.heap.size, 10, none⟩ = some (.slice (some ⟨b, o, none⟩) ([k0, k1] : List Exp).length ec) := cell_of_row _ _ 10 _ _ _ HE2.out
 clear hv hx1 HX1 HR1 HE1 HS0
 by_cases h0 : e0 = 0
 case neg =>
  have t0 : (e0 != 0) = true := by simpa using h0
  have hh : res = (.zero, e0) := by rw [← HD.out]; simp only [zdp, Hs.out]; rw [if_pos h0]; rfl
  subst hh
  clear h0 c0 c10
  go_wp2_with (refine zad rfl 27 _ _ rfl (w.heap.size + 1) 0 rfl zeroCells rfl zaa rfl 27 zeroCells.toArray HR2.out (by simp [zeroCells]) za2 ?_)
  exact bodyPost_ret (v := .tuple #[.agg (show List Value from zeroCells).toArray, .int .i64 e0]) (zah Tryz.results59 rfl zae zaa rfl (zai HR2.out (by simp [zeroCells]))) rfl ⟨zeroCells, rfl, Val.zero_at _ _, HX2.out.setRow (by omega) _⟩
 subst h0
 obtain ⟨z1, z2, z3⟩ := someV_zero (by rw [Hs.out] : (zeg (k0.ev q c) 1).2 = 0)
 have hk1 : k0.ev q c = ((Val.mk yk yb yn ys yt yu yi ym), 0) := by rw [← z3, Hs.out]
 obtain rfl : yk = 1 := by rw [hk1] at z2; exact z2
 have HK1 := q_ hk1
 clear z1 z2 z3 hk1
 cases yb with
 | false =>
  have hh : res = (.mk 1 false yn ys yt yu yi ym, 0) := by rw [← HD.out]; simp [zdp, HK1.out, zeg, Val.kind, Val.bo]
  subst hh
  go_wp2_with (refine zad rfl 27 _ _ rfl (w.heap.size + 1) 0 rfl [.int .i64 1, .bool false, .int .i64 yn, .string ys, .string yt, .string yu, .slice yA yi.length yc, .slice yB ym.length yd] rfl zaa rfl 27 zeroCells.toArray HR2.out (by simp [zeroCells]) HV.out.one ?_)
  exact bodyPost_ret (v := .tuple #[.agg (show List Value from [.int .i64 1, .bool false, .int .i64 yn, .string ys, .string yt, .string yu, .slice yA yi.length yc, .slice yB ym.length yd]).toArray, .int .i64 0]) (zah Tryz.results59 rfl zae zaa rfl (zai HR2.out (by simp [zeroCells]))) rfl ⟨[.int .i64 1, .bool false, .int .i64 yn, .string ys, .string yt, .string yu, .slice yA yi.length yc, .slice yB ym.length yd], rfl, ret_at HV.out HX12.out (by simp) (by simp <;> omega) _, HX2.out.setRow (by omega) _⟩
 | true =>
  go_wp2_with (first | refine zab rfl 30 _ rfl b (o + 1 * 12) rfl zar zao Hcl1.out (Hcx1.out.alike (S := fun b => b < w.heap.size) Hb.out (Alike.of_ext HX2.out fun _ h => h)) ?_)
  refine (someE_ok IH.out k1 g _ cx1 1 (HN.out k1 (by simp)) (HL.out k1 (by simp)) (HRk.out.ext HX2.out) (Hxa1.out.ext HX2.out)).mono ?_
  clear c0 c10
  rintro e9 w9 ⟨cv, rfl, hv, hx9⟩
  have hh : res = (zeg (k1.ev q c) 1) := by rw [← HD.out]; simp [zdp, HK1.out, zeg, Val.kind, Val.bo]
  rw [← hh] at hv ⊢
  obtain ⟨z, ez⟩ := res
  obtain ⟨zk, zb, zn, zs, zt, zu, zi, zm⟩ := z
  obtain ⟨zA, zc, zB, zd, rfl⟩ := hv.opened
  have HX9 := q_ (HX2.out.trans hx9)
  have HXr := q_ (Ext.refl w9)
  have HR9 := q_ ((hx9.block _ (zaf HR2.out)).trans HR2.out)
  have HV9 := q_ hv
  clear hv hx9 hh
  go_wp2_with (refine zad rfl 27 _ _ rfl (w.heap.size + 1) 0 rfl [.int .i64 zk, .bool zb, .int .i64 zn, .string zs, .string zt, .string zu, .slice zA zi.length zc, .slice zB zm.length zd] rfl zaa rfl 27 zeroCells.toArray HR9.out (by simp [zeroCells]) HV9.out.one ?_)
  exact bodyPost_ret (v := .tuple #[.agg (show List Value from [.int .i64 zk, .bool zb, .int .i64 zn, .string zs, .string zt, .string zu, .slice zA zi.length zc, .slice zB zm.length zd]).toArray, .int .i64 ez]) (zah Tryz.results59 rfl zae zaa rfl (zai HR9.out (by simp [zeroCells]))) rfl ⟨[.int .i64 zk, .bool zb, .int .i64 zn, .string zs, .string zt, .string zu, .slice zA zi.length zc, .slice zB zm.length zd], rfl, ret_at HV9.out HXr.out (by have := Hlow.out; simp; omega) (by have := Hlow.out; simp; omega) _, HX9.out.setRow (by omega) _⟩
end Go.Proofs.YtebfoimbdljbmaaGreatDoor
