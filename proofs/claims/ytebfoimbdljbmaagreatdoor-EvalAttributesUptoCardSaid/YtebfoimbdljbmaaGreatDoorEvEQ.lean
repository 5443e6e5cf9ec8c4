/-
  One step of the program's evaluation: what does not ask for all of its kids. The conditions: what is handed in lies in memory as it should.
-/
import Derived.Test.YtebfoimbdljbmaaGreatDoorEvTQ
import Derived.Test.YtebfoimbdljbmaaGreatDoorEvOQ
import Derived.Test.YtebfoimbdljbmaaGreatDoorEvDepQ
namespace Go.Proofs.YtebfoimbdljbmaaGreatDoor
open Go.RowKit
open Lib renaming hid → q_
set_option maxRecDepth 100000
set_option maxHeartbeats 4000000
theorem za4 {P : Program} {ops : Array Oper} {rest : List Oper} {Q : Exit → Act → World → Prop} {a : Act} {w : World} {d : Option Nat} {ty : TypeId} {x y : Operand} {T : TypeId} {p : String} {f : Array Edge} (h : wpList P ops Q ({ dst := d, op := .store ty x y, type := T, pos := p, after := f, guard := none } :: rest) a w) : wpList P ops Q ({ dst := d, op := .store ty x y, type := T, pos := p, after := f, guard := none } :: rest) a w := h
theorem zaw {P : Program} {ops : Array Oper} {rest : List Oper} {Q : Exit → Act → World → Prop} {a : Act} {w : World} {d : Option Nat} {ty : TypeId} {x : Operand} {T : TypeId} {p : String} {f : Array Edge} (h : wpList P ops Q ({ dst := d, op := .load ty x, type := T, pos := p, after := f, guard := none } :: rest) a w) : wpList P ops Q ({ dst := d, op := .load ty x, type := T, pos := p, after := f, guard := none } :: rest) a w := h
theorem Exp.kid_size (e : Exp) {x : Exp} (h : x ∈ e.kids) : SizeOf.sizeOf x < SizeOf.sizeOf e := by
 obtain ⟨op, v, name, kids, names⟩ := e
 have h : x ∈ kids := h
 have := List.sizeOf_lt_of_mem h
 simp only [Exp.mk.sizeOf_spec]
 omega
theorem eval_bad {A : Int → Prop} {q : Req} {c : List Ent} {n : Nat} (ih : EvOf A q c n) (e : Exp) (g : Nat) (w : World) (cs : List Value) (hbad : zcu e.op e.kids.length e.names.length = true) (hn : SizeOf.sizeOf e ≤ n + 1) (hl : e.fine A) (hr : Rk q c w g) (he : InX w e cs) :
  Calls Tryz.prog 35 #[.pointer (some ⟨g, 0, none⟩), .agg cs.toArray] w (zb0 (e.ev q c).1 (e.ev q c).2 w) := by
 have HXe := q_ he
 rw [Exp.ev_def q c e]
 have hkn : ∀ x ∈ e.kids, SizeOf.sizeOf x ≤ n := fun x hx => by have := e.kid_size hx; omega
 have hkl : ∀ x ∈ e.kids, x.fine A := (Exp.fine_iff.1 hl).2.2
 have hvd : e.v.dep ≤ 1000000 := (Exp.fine_iff.1 hl).2.1
 obtain ⟨eo, ev, en, eks, ens⟩ := e
 obtain ⟨lk, lb, ln, ls, lt, lu, lA, ll, lc, lB, lm, ld, eK, ec, eN, ed, hcs, _, hev, hek, hen⟩ := Exp.At.shape he
 obtain rfl : cs = [.int .i64 eo, .int .i64 lk, .bool lb, .int .i64 ln, .string ls, .string lt, .string lu, .slice lA ll lc, .slice lB lm ld, .string en, .slice eK eks.length ec, .slice eN ens.length ed] := hcs
 have hev : InW w ev [.int .i64 lk, .bool lb, .int .i64 ln, .string ls, .string lt, .string lu, .slice lA ll lc, .slice lB lm ld] := hev
 have hek : expR.RowsAt (fun b => b < w.heap.size) w eks (.slice eK eks.length ec) := hek
 have hen : StrsAt (fun b => b < w.heap.size) w ens (.slice eN ens.length ed) := hen
 have HN : Hid (∀ x ∈ eks, SizeOf.sizeOf x ≤ n) := q_ hkn
 have HL : Hid (∀ x ∈ eks, x.fine A) := q_ hkl
 have HVd : Hid (ev.dep ≤ 1000000) := q_ hvd
 have HEv := q_ hev
 have HEk := q_ hek
 have HEn := q_ hen
 have HRk := q_ hr
 have IH := q_ ih
 obtain ⟨res, hres⟩ : ∃ res, evOp q c eo ev en ens (eks.map (Exp.ev q c)) = res := ⟨_, rfl⟩
 rw [show evOp q c (Exp.mk eo ev en eks ens).op (Exp.mk eo ev en eks ens).v (Exp.mk eo ev en eks ens).name (Exp.mk eo ev en eks ens).names ((Exp.mk eo ev en eks ens).kids.map (Exp.ev q c)) = res from hres]
 have HD := q_ hres
 have hbad : zcu eo eks.length ens.length = true := hbad
 have hh : res = (.zero, 1) := by rw [← hres]; unfold evOp; rw [if_pos (by simpa using hbad)]; rfl
 subst hh
 obtain ⟨p0, p1, ps, px⟩ := zdr w (.cells #[.int .i64 eo, .int .i64 lk, .bool lb, .int .i64 ln, .string ls, .string lt, .string lu, .slice lA ll lc, .slice lB lm ld, .string en, .slice eK eks.length ec, .slice eN ens.length ed] 30) (.cells zeroCells.toArray 27)
 have HE0 := q_ p0
 have HR0 := q_ p1
 have HX0 := q_ px
 clear p0 p1 ps px
 obtain ⟨ar, har⟩ : ∃ ar, zb3 eo = ar := ⟨_, rfl⟩
 unfold zcu at hbad
 rw [har] at hbad
 have q4 : (eo == 20) = decide (eo = 20) := by by_cases h : eo = 20 <;> simp [h]
 have q3 : ((eks.length : Int) != ar) = decide ((eks.length : Int) ≠ ar) := by by_cases h : (eks.length : Int) = ar <;> simp [h]
 have q5 : ((ens.length : Int) != (eks.length : Int)) = decide (ens.length ≠ eks.length) := by by_cases h : ens.length = eks.length <;> simp [h] <;> omega
 obtain ⟨x1, q1⟩ : ∃ x, decide (3 < ar) = x := ⟨_, rfl⟩
 obtain ⟨x2, q2⟩ : ∃ x, decide (0 ≤ ar) = x := ⟨_, rfl⟩
 rw [q1, q2] at hbad
 generalize decide ((eks.length : Int) ≠ ar) = x3 at hbad q3
 generalize decide (eo = 20) = x4 at hbad q4
 generalize decide (ens.length ≠ eks.length) = x5 at hbad q5
 cases x1 with
 | true =>
  have HK0 := q_ (zek eo ((w.alloc (.cells #[.int .i64 eo, .int .i64 lk, .bool lb, .int .i64 ln, .string ls, .string lt, .string lu, .slice lA ll lc, .slice lB lm ld, .string en, .slice eK eks.length ec, .slice eN ens.length ed] 30)).alloc (.cells zeroCells.toArray 27)))
  clear hn hl hr he hev hek hen ih hres hkn hkl hvd
  go_enter Tryz.func35, Tryz.ntmps35
  go_wp2_with fail
  refine HK0.out.mono ?_
  rintro e1 w1 ⟨rfl, rfl⟩
  rw [har]
  go_wp2_with ((with_reducible refine za4 ?_; refine zad rfl 27 _ _ rfl (w.heap.size + 1) 0 rfl zeroCells rfl zaa rfl 27 zeroCells.toArray HR0.out (by simp [zeroCells]) za2 ?_))
  exact bodyPost_ret (v := .tuple #[.agg (show List Value from zeroCells).toArray, .int .i64 1]) (zah Tryz.results35 rfl zae zaa rfl (zai HR0.out (by simp [zeroCells]))) rfl ⟨zeroCells, rfl, Val.zero_at _ _, HX0.out.setRow (by omega) _⟩
 | false =>
 cases x2 with
 | true =>
  cases x3 with
  | true =>
   have HK0 := q_ (zek eo ((w.alloc (.cells #[.int .i64 eo, .int .i64 lk, .bool lb, .int .i64 ln, .string ls, .string lt, .string lu, .slice lA ll lc, .slice lB lm ld, .string en, .slice eK eks.length ec, .slice eN ens.length ed] 30)).alloc (.cells zeroCells.toArray 27)))
   clear hn hl hr he hev hek hen ih hres hkn hkl hvd
   go_enter Tryz.func35, Tryz.ntmps35
   go_wp2_with fail
   refine HK0.out.mono ?_
   rintro e1 w1 ⟨rfl, rfl⟩
   rw [har]
   go_wp2_with ((with_reducible refine za4 ?_; refine zad rfl 27 _ _ rfl (w.heap.size + 1) 0 rfl zeroCells rfl zaa rfl 27 zeroCells.toArray HR0.out (by simp [zeroCells]) za2 ?_))
   exact bodyPost_ret (v := .tuple #[.agg (show List Value from zeroCells).toArray, .int .i64 1]) (zah Tryz.results35 rfl zae zaa rfl (zai HR0.out (by simp [zeroCells]))) rfl ⟨zeroCells, rfl, Val.zero_at _ _, HX0.out.setRow (by omega) _⟩
  | false =>
  cases x4 with
  | true =>
   cases x5 with
   | true =>
    have HK0 := q_ (zek eo ((w.alloc (.cells #[.int .i64 eo, .int .i64 lk, .bool lb, .int .i64 ln, .string ls, .string lt, .string lu, .slice lA ll lc, .slice lB lm ld, .string en, .slice eK eks.length ec, .slice eN ens.length ed] 30)).alloc (.cells zeroCells.toArray 27)))
    clear hn hl hr he hev hek hen ih hres hkn hkl hvd
    go_enter Tryz.func35, Tryz.ntmps35
    go_wp2_with fail
    refine HK0.out.mono ?_
    rintro e1 w1 ⟨rfl, rfl⟩
    rw [har]
    go_wp2_with ((with_reducible refine za4 ?_; refine zad rfl 27 _ _ rfl (w.heap.size + 1) 0 rfl zeroCells rfl zaa rfl 27 zeroCells.toArray HR0.out (by simp [zeroCells]) za2 ?_))
    exact bodyPost_ret (v := .tuple #[.agg (show List Value from zeroCells).toArray, .int .i64 1]) (zah Tryz.results35 rfl zae zaa rfl (zai HR0.out (by simp [zeroCells]))) rfl ⟨zeroCells, rfl, Val.zero_at _ _, HX0.out.setRow (by omega) _⟩
   | false => simp at hbad
  | false => simp at hbad
 | false =>
  cases x4 with
  | true =>
   cases x5 with
   | true =>
    have HK0 := q_ (zek eo ((w.alloc (.cells #[.int .i64 eo, .int .i64 lk, .bool lb, .int .i64 ln, .string ls, .string lt, .string lu, .slice lA ll lc, .slice lB lm ld, .string en, .slice eK eks.length ec, .slice eN ens.length ed] 30)).alloc (.cells zeroCells.toArray 27)))
    clear hn hl hr he hev hek hen ih hres hkn hkl hvd
    go_enter Tryz.func35, Tryz.ntmps35
    go_wp2_with fail
    refine HK0.out.mono ?_
    rintro e1 w1 ⟨rfl, rfl⟩
    rw [har]
    go_wp2_with ((with_reducible refine za4 ?_; refine zad rfl 27 _ _ rfl (w.heap.size + 1) 0 rfl zeroCells rfl zaa rfl 27 zeroCells.toArray HR0.out (by simp [zeroCells]) za2 ?_))
    exact bodyPost_ret (v := .tuple #[.agg (show List Value from zeroCells).toArray, .int .i64 1]) (zah Tryz.results35 rfl zae zaa rfl (zai HR0.out (by simp [zeroCells]))) rfl ⟨zeroCells, rfl, Val.zero_at _ _, HX0.out.setRow (by omega) _⟩
   | false => simp at hbad
  | false => simp at hbad
theorem eval_lit {A : Int → Prop} {q : Req} {c : List Ent} {n : Nat} (ih : EvOf A q c n) (e : Exp) (g : Nat) (w : World) (cs : List Value) (heo : e.op = 1) (hgood : zcu e.op e.kids.length e.names.length = false) (hn : SizeOf.sizeOf e ≤ n + 1) (hl : e.fine A) (hr : Rk q c w g) (he : InX w e cs) :
  Calls Tryz.prog 35 #[.pointer (some ⟨g, 0, none⟩), .agg cs.toArray] w (zb0 (e.ev q c).1 (e.ev q c).2 w) := by
 have HXe := q_ he
 rw [Exp.ev_def q c e]
 have hkn : ∀ x ∈ e.kids, SizeOf.sizeOf x ≤ n := fun x hx => by have := e.kid_size hx; omega
 have hkl : ∀ x ∈ e.kids, x.fine A := (Exp.fine_iff.1 hl).2.2
 have hvd : e.v.dep ≤ 1000000 := (Exp.fine_iff.1 hl).2.1
 obtain ⟨eo, ev, en, eks, ens⟩ := e
 obtain ⟨lk, lb, ln, ls, lt, lu, lA, ll, lc, lB, lm, ld, eK, ec, eN, ed, hcs, _, hev, hek, hen⟩ := Exp.At.shape he
 obtain rfl : cs = [.int .i64 eo, .int .i64 lk, .bool lb, .int .i64 ln, .string ls, .string lt, .string lu, .slice lA ll lc, .slice lB lm ld, .string en, .slice eK eks.length ec, .slice eN ens.length ed] := hcs
 have hev : InW w ev [.int .i64 lk, .bool lb, .int .i64 ln, .string ls, .string lt, .string lu, .slice lA ll lc, .slice lB lm ld] := hev
 have hek : expR.RowsAt (fun b => b < w.heap.size) w eks (.slice eK eks.length ec) := hek
 have hen : StrsAt (fun b => b < w.heap.size) w ens (.slice eN ens.length ed) := hen
 have HN : Hid (∀ x ∈ eks, SizeOf.sizeOf x ≤ n) := q_ hkn
 have HL : Hid (∀ x ∈ eks, x.fine A) := q_ hkl
 have HVd : Hid (ev.dep ≤ 1000000) := q_ hvd
 have HEv := q_ hev
 have HEk := q_ hek
 have HEn := q_ hen
 have HRk := q_ hr
 have IH := q_ ih
 obtain ⟨res, hres⟩ : ∃ res, evOp q c eo ev en ens (eks.map (Exp.ev q c)) = res := ⟨_, rfl⟩
 rw [show evOp q c (Exp.mk eo ev en eks ens).op (Exp.mk eo ev en eks ens).v (Exp.mk eo ev en eks ens).name (Exp.mk eo ev en eks ens).names ((Exp.mk eo ev en eks ens).kids.map (Exp.ev q c)) = res from hres]
 have HD := q_ hres
 obtain rfl : eo = 1 := heo
 have hgood : zcu 1 eks.length ens.length = false := hgood
 have hlen : eks.length = 0 := by simp [zcu, zb3] at hgood; simpa using hgood
 have q3 : ((eks.length : Int) != 0) = false := by simp [hlen]
 obtain ⟨p0, p1, ps, px⟩ := zdr w (.cells #[.int .i64 1, .int .i64 lk, .bool lb, .int .i64 ln, .string ls, .string lt, .string lu, .slice lA ll lc, .slice lB lm ld, .string en, .slice eK eks.length ec, .slice eN ens.length ed] 30) (.cells zeroCells.toArray 27)
 have HE0 := q_ p0
 have HR0 := q_ p1
 have HX0 := q_ px
 clear p0 p1 ps px
 have hR : ev.canon = res := by rw [← hres]; unfold evOp; rw [if_neg (by simpa using hgood)]; rfl
 have HD2 := q_ hR
 have HC := q_ (canon_okP ev (fun b => b < w.heap.size) ((w.alloc (.cells #[.int .i64 1, .int .i64 lk, .bool lb, .int .i64 ln, .string ls, .string lt, .string lu, .slice lA ll lc, .slice lB lm ld, .string en, .slice eK eks.length ec, .slice eN ens.length ed] 30)).alloc (.cells zeroCells.toArray 27)) [.int .i64 lk, .bool lb, .int .i64 ln, .string ls, .string lt, .string lu, .slice lA ll lc, .slice lB lm ld] hvd (fun b hb => Nat.lt_of_lt_of_le hb HX0.out.size) (Val.At.alike (Alike.of_ext HX0.out fun _ h => h) _ _ hev))
 have HCv := q_ (zcd (pre := [.int .i64 1]) (cs := [.int .i64 lk, .bool lb, .int .i64 ln, .string ls, .string lt, .string lu, .slice lA ll lc, .slice lB lm ld]) (r := [.string en, .slice eK eks.length ec, .slice eN ens.length ed]) HE0.out)
 clear hgood hlen hR
 have HK0 := q_ (zek 1 ((w.alloc (.cells #[.int .i64 1, .int .i64 lk, .bool lb, .int .i64 ln, .string ls, .string lt, .string lu, .slice lA ll lc, .slice lB lm ld, .string en, .slice eK eks.length ec, .slice eN ens.length ed] 30)).alloc (.cells zeroCells.toArray 27)))
 clear hn hl hr he hev hek hen ih hres hkn hkl hvd
 go_enter Tryz.func35, Tryz.ntmps35
 go_wp2_with fail
 refine HK0.out.mono ?_
 rintro e1 w1 ⟨rfl, rfl⟩
 rw [show zb3 1 = 0 from rfl]
 go_wp2_with (first | (with_reducible refine zaw ?_; refine zab rfl 27 _ rfl w.heap.size 1 rfl zae zaa (cs := [.int .i64 lk, .bool lb, .int .i64 ln, .string ls, .string lt, .string lu, .slice lA ll lc, .slice lB lm ld]) rfl HCv.out ?_))
 refine (HC.out).mono ?_
 rintro e9 w9 ⟨cv, rfl, hv, hx9⟩
 have hh : res = ev.canon := HD2.out.symm
 rw [← hh] at hv ⊢
 obtain ⟨z, ez⟩ := res
 obtain ⟨zk, zb, zn, zs, zt, zu, zi, zm⟩ := z
 obtain ⟨zA, zc, zB, zd, rfl⟩ := hv.opened
 have HX9 := q_ (HX0.out.trans hx9)
 have HXr := q_ (Ext.refl w9)
 have HR9 := q_ ((hx9.block _ (zaf HR0.out)).trans HR0.out)
 have HV9 := q_ hv
 clear hv hx9 hh
 go_wp2_with ((with_reducible refine za4 ?_; refine zad rfl 27 _ _ rfl (w.heap.size + 1) 0 rfl [.int .i64 zk, .bool zb, .int .i64 zn, .string zs, .string zt, .string zu, .slice zA zi.length zc, .slice zB zm.length zd] rfl zaa rfl 27 zeroCells.toArray HR9.out (by simp [zeroCells]) HV9.out.one ?_))
 exact bodyPost_ret (v := .tuple #[.agg (show List Value from [.int .i64 zk, .bool zb, .int .i64 zn, .string zs, .string zt, .string zu, .slice zA zi.length zc, .slice zB zm.length zd]).toArray, .int .i64 ez]) (zah Tryz.results35 rfl zae zaa rfl (zai HR9.out (by simp [zeroCells]))) rfl ⟨[.int .i64 zk, .bool zb, .int .i64 zn, .string zs, .string zt, .string zu, .slice zA zi.length zc, .slice zB zm.length zd], rfl, ret_at HV9.out HXr.out (by simp <;> omega) (by simp <;> omega) _, HX9.out.setRow (by omega) _⟩
theorem eval_and {A : Int → Prop} {q : Req} {c : List Ent} {n : Nat} (ih : EvOf A q c n) (e : Exp) (g : Nat) (w : World) (cs : List Value) (heo : e.op = 4) (hgood : zcu e.op e.kids.length e.names.length = false) (hn : SizeOf.sizeOf e ≤ n + 1) (hl : e.fine A) (hr : Rk q c w g) (he : InX w e cs) :
  Calls Tryz.prog 35 #[.pointer (some ⟨g, 0, none⟩), .agg cs.toArray] w (zb0 (e.ev q c).1 (e.ev q c).2 w) := by
 have HXe := q_ he
 rw [Exp.ev_def q c e]
 have hkn : ∀ x ∈ e.kids, SizeOf.sizeOf x ≤ n := fun x hx => by have := e.kid_size hx; omega
 have hkl : ∀ x ∈ e.kids, x.fine A := (Exp.fine_iff.1 hl).2.2
 have hvd : e.v.dep ≤ 1000000 := (Exp.fine_iff.1 hl).2.1
 obtain ⟨eo, ev, en, eks, ens⟩ := e
 obtain ⟨lk, lb, ln, ls, lt, lu, lA, ll, lc, lB, lm, ld, eK, ec, eN, ed, hcs, _, hev, hek, hen⟩ := Exp.At.shape he
 obtain rfl : cs = [.int .i64 eo, .int .i64 lk, .bool lb, .int .i64 ln, .string ls, .string lt, .string lu, .slice lA ll lc, .slice lB lm ld, .string en, .slice eK eks.length ec, .slice eN ens.length ed] := hcs
 have hev : InW w ev [.int .i64 lk, .bool lb, .int .i64 ln, .string ls, .string lt, .string lu, .slice lA ll lc, .slice lB lm ld] := hev
 have hek : expR.RowsAt (fun b => b < w.heap.size) w eks (.slice eK eks.length ec) := hek
 have hen : StrsAt (fun b => b < w.heap.size) w ens (.slice eN ens.length ed) := hen
 have HN : Hid (∀ x ∈ eks, SizeOf.sizeOf x ≤ n) := q_ hkn
 have HL : Hid (∀ x ∈ eks, x.fine A) := q_ hkl
 have HVd : Hid (ev.dep ≤ 1000000) := q_ hvd
 have HEv := q_ hev
 have HEk := q_ hek
 have HEn := q_ hen
 have HRk := q_ hr
 have IH := q_ ih
 obtain ⟨res, hres⟩ : ∃ res, evOp q c eo ev en ens (eks.map (Exp.ev q c)) = res := ⟨_, rfl⟩
 rw [show evOp q c (Exp.mk eo ev en eks ens).op (Exp.mk eo ev en eks ens).v (Exp.mk eo ev en eks ens).name (Exp.mk eo ev en eks ens).names ((Exp.mk eo ev en eks ens).kids.map (Exp.ev q c)) = res from hres]
 have HD := q_ hres
 obtain rfl : eo = 4 := heo
 have hgood : zcu 4 eks.length ens.length = false := hgood
 have hlen : eks.length = 2 := by simp [zcu, zb3] at hgood; simpa using (by omega : eks.length = 2)
 have q3 : ((eks.length : Int) != 2) = false := by simp [hlen]
 obtain ⟨p0, p1, ps, px⟩ := zdr w (.cells #[.int .i64 4, .int .i64 lk, .bool lb, .int .i64 ln, .string ls, .string lt, .string lu, .slice lA ll lc, .slice lB lm ld, .string en, .slice eK eks.length ec, .slice eN ens.length ed] 30) (.cells zeroCells.toArray 27)
 have HE0 := q_ p0
 have HR0 := q_ p1
 have HX0 := q_ px
 clear p0 p1 ps px
 have hW : InX ((w.alloc (.cells #[.int .i64 4, .int .i64 lk, .bool lb, .int .i64 ln, .string ls, .string lt, .string lu, .slice lA ll lc, .slice lB lm ld, .string en, .slice eK eks.length ec, .slice eN ens.length ed] 30)).alloc (.cells zeroCells.toArray 27)) (.mk 4 ev en eks ens) [.int .i64 4, .int .i64 lk, .bool lb, .int .i64 ln, .string ls, .string lt, .string lu, .slice lA ll lc, .slice lB lm ld, .string en, .slice eK eks.length ec, .slice eN ens.length ed] := HXe.out.ext HX0.out
 have hc : Calls Tryz.prog 59 #[.pointer (some ⟨g, 0, none⟩), .agg ([.int .i64 4, .int .i64 lk, .bool lb, .int .i64 ln, .string ls, .string lt, .string lu, .slice lA ll lc, .slice lB lm ld, .string en, .slice eK eks.length ec, .slice eN ens.length ed] : List Value).toArray] ((w.alloc (.cells #[.int .i64 4, .int .i64 lk, .bool lb, .int .i64 ln, .string ls, .string lt, .string lu, .slice lA ll lc, .slice lB lm ld, .string en, .slice eK eks.length ec, .slice eN ens.length ed] 30)).alloc (.cells zeroCells.toArray 27)) (zb0 res.1 res.2 ((w.alloc (.cells #[.int .i64 4, .int .i64 lk, .bool lb, .int .i64 ln, .string ls, .string lt, .string lu, .slice lA ll lc, .slice lB lm ld, .string en, .slice eK eks.length ec, .slice eN ens.length ed] 30)).alloc (.cells zeroCells.toArray 27))) := by
  have hrw := hr.ext HX0.out
  revert hW hrw
  generalize ((w.alloc (.cells #[.int .i64 4, .int .i64 lk, .bool lb, .int .i64 ln, .string ls, .string lt, .string lu, .slice lA ll lc, .slice lB lm ld, .string en, .slice eK eks.length ec, .slice eN ens.length ed] 30)).alloc (.cells zeroCells.toArray 27)) = W
  intro hW hrw
  match eks, hlen, hkn, hkl, hres, hgood, hW with
  | [k0, k1], _, hkn, hkl, hres, hgood, hW =>
   have hc := choiceE_ok4 ih ev en k0 k1 ens g W _ hkn hkl hrw hW
   have e : zdp 4 (k0.ev q c) (k1.ev q c) (no 1) = res := by rw [← hres]; unfold evOp; rw [if_neg (by simpa using hgood)]; simp
   rw [e] at hc
   exact hc
 have HC := q_ hc
 clear hgood hlen hW hc
 have HK0 := q_ (zek 4 ((w.alloc (.cells #[.int .i64 4, .int .i64 lk, .bool lb, .int .i64 ln, .string ls, .string lt, .string lu, .slice lA ll lc, .slice lB lm ld, .string en, .slice eK eks.length ec, .slice eN ens.length ed] 30)).alloc (.cells zeroCells.toArray 27)))
 clear hn hl hr he hev hek hen ih hres hkn hkl hvd
 go_enter Tryz.func35, Tryz.ntmps35
 go_wp2_with fail
 refine HK0.out.mono ?_
 rintro e1 w1 ⟨rfl, rfl⟩
 rw [show zb3 4 = 2 from rfl]
 go_wp2_with (first | (with_reducible refine zaw ?_; refine zab rfl 30 _ rfl w.heap.size 0 rfl zar zao (cs := [.int .i64 4, .int .i64 lk, .bool lb, .int .i64 ln, .string ls, .string lt, .string lu, .slice lA ll lc, .slice lB lm ld, .string en, .slice eK eks.length ec, .slice eN ens.length ed]) rfl (zak HE0.out) ?_))
 refine (HC.out).mono ?_
 rintro e9 w9 ⟨cv, rfl, hv, hx9⟩
 have hh : res = res := rfl
 rw [← hh] at hv ⊢
 obtain ⟨z, ez⟩ := res
 obtain ⟨zk, zb, zn, zs, zt, zu, zi, zm⟩ := z
 obtain ⟨zA, zc, zB, zd, rfl⟩ := hv.opened
 have HX9 := q_ (HX0.out.trans hx9)
 have HXr := q_ (Ext.refl w9)
 have HR9 := q_ ((hx9.block _ (zaf HR0.out)).trans HR0.out)
 have HV9 := q_ hv
 clear hv hx9 hh
 go_wp2_with ((with_reducible refine za4 ?_; refine zad rfl 27 _ _ rfl (w.heap.size + 1) 0 rfl [.int .i64 zk, .bool zb, .int .i64 zn, .string zs, .string zt, .string zu, .slice zA zi.length zc, .slice zB zm.length zd] rfl zaa rfl 27 zeroCells.toArray HR9.out (by simp [zeroCells]) HV9.out.one ?_))
 exact bodyPost_ret (v := .tuple #[.agg (show List Value from [.int .i64 zk, .bool zb, .int .i64 zn, .string zs, .string zt, .string zu, .slice zA zi.length zc, .slice zB zm.length zd]).toArray, .int .i64 ez]) (zah Tryz.results35 rfl zae zaa rfl (zai HR9.out (by simp [zeroCells]))) rfl ⟨[.int .i64 zk, .bool zb, .int .i64 zn, .string zs, .string zt, .string zu, .slice zA zi.length zc, .slice zB zm.length zd], rfl, ret_at HV9.out HXr.out (by simp <;> omega) (by simp <;> omega) _, HX9.out.setRow (by omega) _⟩
end Go.Proofs.YtebfoimbdljbmaaGreatDoor
