/-
  The document's answer for layer 14: truths, how many kids, whether a set holds a value. The conditions: what is handed in lies in memory as it should.
-/
import Derived.Shelf.Bits.Mul64
import Derived.Test.YtebfoimbdljbmaaGreatDoorRkQ
import Derived.Test.YtebfoimbdljbmaaGreatDoorIn6Q
import Derived.Test.YtebfoimbdljbmaaGreatDoorGh
import Derived.Test.YtebfoimbdljbmaaGreatDoorGb
import Derived.Test.YtebfoimbdljbmaaGreatDoorGe
import Derived.Test.YtebfoimbdljbmaaGreatDoorGc
import Derived.Test.YtebfoimbdljbmaaGreatDoorGd
import Derived.Test.YtebfoimbdljbmaaGreatDoorGk
import Derived.Test.YtebfoimbdljbmaaGreatDoorEvIQ
import Derived.Test.YtebfoimbdljbmaaGreatDoorEvOQ
namespace Go.Proofs.YtebfoimbdljbmaaGreatDoor
open Go.RowKit
open Lib renaming hid → q_
set_option maxRecDepth 100000
set_option maxHeartbeats 4000000
theorem truthR_ok (b : Bool) (w : World) : Calls Tryz.prog 107 #[.bool b] w fun e w' => e = .returned (.agg (zbb b).toArray) ∧ Ext w w' := by
 have HR := q_ (heap_alloc_new w (.cells zeroCells.toArray 27))
 have HX := q_ ((Ext.refl w).alloc (.cells zeroCells.toArray 27))
 go_enter Tryz.func107, Tryz.ntmps107
 go_wp2_with (refine zad rfl 27 _ _ rfl w.heap.size 0 rfl (zbb b) rfl zaa rfl 27 zeroCells.toArray HR.out (by simp [zeroCells, zbb]) (zcn b) ?_)
 exact bodyPost_ret (v := .agg (zbb b).toArray) (zdb Tryz.results107 rfl zae zaa rfl (zai HR.out (by simp [zeroCells, zbb]))) rfl ⟨rfl, HX.out.setRow (Nat.le_refl _) _⟩
def zdk (op : Int) : Int := if zb3 op = 4 then -2 else zb3 op
theorem manyR_ok (op : Int) (w : World) : Calls Tryz.prog 77 #[.int .i64 op] w fun e w' => e = .returned (.int .i64 (zdk op)) ∧ w = w' := by
 by_cases g1 : op = 1
 ·subst g1
  have HA := q_ (show zdk 1 = 0 from by decide)
  go_enter Tryz.func77, Tryz.ntmps77
  go_wp2_with fail
  go_ret
  exact ⟨zan HA.out.symm, rfl⟩
 by_cases g2 : op = 2
 ·subst g2
  have HA := q_ (show zdk 2 = 0 from by decide)
  go_enter Tryz.func77, Tryz.ntmps77
  go_wp2_with fail
  go_ret
  exact ⟨zan HA.out.symm, rfl⟩
 by_cases g3 : op = 3
 ·subst g3
  have HA := q_ (show zdk 3 = 0 from by decide)
  go_enter Tryz.func77, Tryz.ntmps77
  go_wp2_with fail
  go_ret
  exact ⟨zan HA.out.symm, rfl⟩
 by_cases g6 : op = 6
 ·subst g6
  have HA := q_ (show zdk 6 = 1 from by decide)
  go_enter Tryz.func77, Tryz.ntmps77
  go_wp2_with fail
  go_ret
  exact ⟨zan HA.out.symm, rfl⟩
 by_cases g14 : op = 14
 ·subst g14
  have HA := q_ (show zdk 14 = 1 from by decide)
  go_enter Tryz.func77, Tryz.ntmps77
  go_wp2_with fail
  go_ret
  exact ⟨zan HA.out.symm, rfl⟩
 by_cases g16 : op = 16
 ·subst g16
  have HA := q_ (show zdk 16 = 1 from by decide)
  go_enter Tryz.func77, Tryz.ntmps77
  go_wp2_with fail
  go_ret
  exact ⟨zan HA.out.symm, rfl⟩
 by_cases g17 : op = 17
 ·subst g17
  have HA := q_ (show zdk 17 = 1 from by decide)
  go_enter Tryz.func77, Tryz.ntmps77
  go_wp2_with fail
  go_ret
  exact ⟨zan HA.out.symm, rfl⟩
 by_cases g18 : op = 18
 ·subst g18
  have HA := q_ (show zdk 18 = 1 from by decide)
  go_enter Tryz.func77, Tryz.ntmps77
  go_wp2_with fail
  go_ret
  exact ⟨zan HA.out.symm, rfl⟩
 by_cases g7 : op = 7
 ·subst g7
  have HA := q_ (show zdk 7 = 3 from by decide)
  go_enter Tryz.func77, Tryz.ntmps77
  go_wp2_with fail
  go_ret
  exact ⟨zan HA.out.symm, rfl⟩
 by_cases g19 : op = 19
 ·subst g19
  have HA := q_ (show zdk 19 = (-1) from by decide)
  go_enter Tryz.func77, Tryz.ntmps77
  go_wp2_with fail
  go_ret
  exact ⟨zan HA.out.symm, rfl⟩
 by_cases g20 : op = 20
 ·subst g20
  have HA := q_ (show zdk 20 = (-1) from by decide)
  go_enter Tryz.func77, Tryz.ntmps77
  go_wp2_with fail
  go_ret
  exact ⟨zan HA.out.symm, rfl⟩
 have t1 : (op == 1) = false := by simpa using g1
 have t2 : (op == 2) = false := by simpa using g2
 have t3 : (op == 3) = false := by simpa using g3
 have t6 : (op == 6) = false := by simpa using g6
 have t14 : (op == 14) = false := by simpa using g14
 have t16 : (op == 16) = false := by simpa using g16
 have t17 : (op == 17) = false := by simpa using g17
 have t18 : (op == 18) = false := by simpa using g18
 have t7 : (op == 7) = false := by simpa using g7
 have t19 : (op == 19) = false := by simpa using g19
 have t20 : (op == 20) = false := by simpa using g20
 by_cases h1 : op < 1
 ·have HA := q_ (show zdk op = -2 by unfold zdk zb3; rw [if_pos]; (repeat' split) <;> omega)
  clear g1 g2 g3 g6 g14 g16 g17 g18 g7 g19 g20
  go_enter Tryz.func77, Tryz.ntmps77
  go_wp2_with fail
  go_ret
  exact ⟨zan HA.out.symm, rfl⟩
 by_cases h2 : 23 < op
 ·have HA := q_ (show zdk op = -2 by unfold zdk zb3; rw [if_pos]; (repeat' split) <;> omega)
  clear g1 g2 g3 g6 g14 g16 g17 g18 g7 g19 g20
  go_enter Tryz.func77, Tryz.ntmps77
  go_wp2_with fail
  go_ret
  exact ⟨zan HA.out.symm, rfl⟩
 have HA := q_ (show zdk op = 2 by unfold zdk zb3; (repeat' split) <;> omega)
 clear g1 g2 g3 g6 g14 g16 g17 g18 g7 g19 g20
 go_enter Tryz.func77, Tryz.ntmps77
 go_wp2_with fail
 go_ret
 exact ⟨zan HA.out.symm, rfl⟩
end Go.Proofs.YtebfoimbdljbmaaGreatDoor

/-
  The document's answer for layer 14: whether one is in others; what is made of two values. The conditions: what is handed in lies in memory as it should; the entities are as they must be.
-/
namespace Go.Proofs.YtebfoimbdljbmaaGreatDoor
open Go.RowKit
def EntsIn (S : Nat → Prop) (w : World) (c : List Ent) (v : Value) : Prop := (∀ b, S b → b < w.heap.size) ∧ entR.RowsAt S w c v ∧ Tidy c
theorem EntsIn.ext {S : Nat → Prop} {w w' : World} {c : List Ent} {v : Value} (h : EntsIn S w c v) (k : Ext w w') : EntsIn S w' c v :=
 ⟨fun b hb => Nat.lt_of_lt_of_le (h.1 b hb) k.size, h.2.1.alike (Alike.of_ext k h.1), h.2.2⟩
theorem zbo {S : Nat → Prop} {w w' : World} {er : Int} {cs : List Value} (he : er ≠ 0) (h : cs = zeroCells) (k : Ext w w') : RefAns S (no er) w (.returned (.tuple #[.agg cs.toArray, .int .i64 er])) w' := by
 subst h
 exact ⟨.zero, zeroCells, rfl, fun h => absurd h he, Val.zero_at _ _, k⟩
theorem zdl {S : Nat → Prop} {w w' : World} {b : Bool} {cs : List Value} (h : cs = zbb b) (k : Ext w w') : RefAns S (yes b) w (.returned (.tuple #[.agg cs.toArray, .int .i64 0])) w' := by
 subst h
 exact ⟨.truth b, zbb b, rfl, fun _ => rfl, zeh _ _ _, k⟩
theorem items_rows {S : Nat → Prop} {w : World} {k : Int} {b : Bool} {n : Int} {s t u : ByteArray} {i : List Val} {m : List ByteArray} {A : Option Addr} {c : Nat} {B : Option Addr} {d : Nat}
  (h : Val.At S w (.mk k b n s t u i m) [.int .i64 k, .bool b, .int .i64 n, .string s, .string t, .string u, .slice A i.length c, .slice B m.length d]) : valR.RowsAt S w i (.slice A i.length c) := by
 unfold Val.At at h
 obtain ⟨A', c', nv, e1, _, h2, h3, _⟩ := h
 simp only [List.cons.injEq, Value.slice.injEq, true_and, and_true] at e1
 obtain ⟨⟨e2, e3⟩, _⟩ := e1
 subst e2 e3
 exact ⟨_, _, rfl, h2, fun hn => let ⟨b, o, e, hs, hr⟩ := h3 hn; ⟨b, o, e, hs, fun i x hx => by
  obtain ⟨cs, _, h2, h3⟩ := hr.get hx
  exact ⟨cs, h2, h3⟩⟩⟩
end Go.Proofs.YtebfoimbdljbmaaGreatDoor

/-
  The document's answer for layer 14: what is made of one value. The conditions: what is handed in lies in memory as it should; the entities are as they must be.
-/
namespace Go.Proofs.YtebfoimbdljbmaaGreatDoor
open Go.RowKit
open Lib renaming hid → q_
set_option maxRecDepth 100000
set_option maxHeartbeats 4000000
theorem attr_kind {c : List Ent} {op : Int} {name : ByteArray} {v : Val} (h4 : v.kind ≠ 4) (h6 : v.kind ≠ 6) : za3 c op name v = no 30 := by
 unfold za3 zbl; rw [if_neg h6, if_neg h4, if_pos (by decide)]
theorem attr_none17 {c : List Ent} {name : ByteArray} {v : Val} (h4 : v.kind = 4) (hi : idx (c.map Ent.uid) v.uid = none) : za3 c 17 name v = yes false := by
 have e : zbl c v = (.zero, false, 0) := by unfold zbl; rw [if_neg (by omega), if_pos h4]; simp only [hi]
 unfold za3; rw [e]; rfl
theorem attr_none18 {c : List Ent} {name : ByteArray} {v : Val} (h4 : v.kind = 4) (hi : idx (c.map Ent.uid) v.uid = none) : za3 c 18 name v = no 22 := by
 have e : zbl c v = (.zero, false, 0) := by unfold zbl; rw [if_neg (by omega), if_pos h4]; simp only [hi]
 unfold za3; rw [e]; rfl
theorem attrs_ent {c : List Ent} {v : Val} {i : Nat} {x : Ent} (h4 : v.kind = 4) (hi : idx (c.map Ent.uid) v.uid = some i) (hx : c[i]? = some x) : zbl c v = (x.av, true, 0) := by
 unfold zbl; rw [if_neg (by omega), if_pos h4]; simp only [hi, hx]
theorem attrs_rec {c : List Ent} {v : Val} (h6 : v.kind = 6) : zbl c v = (v, true, 0) := by unfold zbl; rw [if_pos h6]
theorem attr_has {c : List Ent} {name : ByteArray} {v z : Val} (h : zbl c v = (z, true, 0)) : za3 c 17 name v = yes (z.find name).isSome := by
 unfold za3; rw [h]; simp
theorem attr_not {c : List Ent} {name : ByteArray} {v z : Val} (h : zbl c v = (z, true, 0)) (hf : z.find name = none) : za3 c 18 name v = no 31 := by
 unfold za3; rw [h]; simp [hf]
theorem attr_get {c : List Ent} {name : ByteArray} {v z y : Val} {i : Nat} (h : zbl c v = (z, true, 0)) (hf : z.find name = some i) (hy : z.items[i]? = some y) : za3 c 18 name v = (y, 0) := by
 unfold za3; rw [h]; simp [hf, hy]
theorem oneR_17 (T : Nat → Prop) (c : List Ent) (cv : Value) (a : Val) (lk : Int) (lb : Bool) (ln : Int) (ls lt lu : ByteArray) (lA : Option Addr) (ll lc : Nat) (lB : Option Addr) (lm ld : Nat) (en : ByteArray) (eK : Option Addr) (ekl ec : Nat) (eN : Option Addr) (enl ed : Nat) (w : World) (ca : List Value) (hT : ∀ b, T b → b < w.heap.size) (ha : Val.At T w a ca) (hen : EntsIn T w c cv) :
  Calls Tryz.prog 79 #[.agg ([.int .i64 17, .int .i64 lk, .bool lb, .int .i64 ln, .string ls, .string lt, .string lu, .slice lA ll lc, .slice lB lm ld, .string en, .slice eK ekl ec, .slice eN enl ed] : List Value).toArray, .agg ca.toArray, cv] w (RefAns T (oneV c 17 en a) w) := by
 have HEn := q_ hen
 obtain ⟨cA, cc, rfl, _⟩ := id hen.2.1
 obtain ⟨gk, gb, gn, gs, gt, gu, gi, gm⟩ := a
 obtain ⟨gA, gc, gB, gd, rfl⟩ := ha.opened
 have HIa := q_ (ha.bounds.2.1)
 obtain ⟨res, hres⟩ : ∃ r, oneV c 17 en (.mk gk gb gn gs gt gu gi gm) = r := ⟨_, rfl⟩
 rw [hres]
 have HR := q_ hres
 obtain ⟨p0, p1, p2, ps, px⟩ := zdn w (.cells #[.int .i64 17, .int .i64 lk, .bool lb, .int .i64 ln, .string ls, .string lt, .string lu, .slice lA ll lc, .slice lB lm ld, .string en, .slice eK ekl ec, .slice eN enl ed] 30) (.cells #[.int .i64 gk, .bool gb, .int .i64 gn, .string gs, .string gt, .string gu, .slice gA gi.length gc, .slice gB gm.length gd] 27) (.cells zeroCells.toArray 27)
 have HE0 := q_ p0
 have HA0 := q_ p1
 have HZ0 := q_ p2
 have HX0 := q_ px
 clear p0 p1 p2 ps px
 have Ha := q_ ha
 have HT := q_ hT
 clear ha hT hen hres
 by_cases h6 : gk = 6
 ·subst h6
  have Hv : Hid (Val.At T w (Val.mk 6 gb gn gs gt gu gi gm) [.int .i64 6, .bool gb, .int .i64 gn, .string gs, .string gt, .string gu, .slice gA gi.length gc, .slice gB gm.length gd]) := Ha
  have HG : Hid (∀ X, Ext w X → Calls Tryz.prog 109 #[.agg #[.int .i64 6, .bool gb, .int .i64 gn, .string gs, .string gt, .string gu, .slice gA gi.length gc, .slice gB gm.length gd], .string en] X fun e w' => e = .returned (.int .i64 (pos ((Val.mk 6 gb gn gs gt gu gi gm).find en))) ∧ Ext X w') := q_ fun X hX => getR_ok (Val.mk 6 gb gn gs gt gu gi gm) en T X [.int .i64 6, .bool gb, .int .i64 gn, .string gs, .string gt, .string gu, .slice gA gi.length gc, .slice gB gm.length gd] (fun b hb => Nat.lt_of_lt_of_le (HT.out b hb) hX.size) (Val.At.alike (Alike.of_ext hX HT.out) _ _ Hv.out)
  cases hf : (Val.mk 6 gb gn gs gt gu gi gm).find en with
  | none =>
   have hh : res = yes false := by rw [← HR.out]; unfold oneV; rw [if_pos (by omega), attr_has (attrs_rec (v := .mk 6 gb gn gs gt gu gi gm) rfl), hf]; rfl
   subst hh
   rw [hf] at HG
   have HG : Hid (∀ X, Ext w X → Calls Tryz.prog 109 #[.agg #[.int .i64 6, .bool gb, .int .i64 gn, .string gs, .string gt, .string gu, .slice gA gi.length gc, .slice gB gm.length gd], .string en] X fun e w' => e = .returned (.int .i64 (-1)) ∧ Ext X w') := HG
   clear hf
   go_enter Tryz.func79, Tryz.ntmps79
   go_wp2_with (first | (with_reducible refine zaw ?_; refine zab rfl 27 _ rfl (w.heap.size + 1) 0 rfl zae zaa (cs := [.int .i64 6, .bool gb, .int .i64 gn, .string gs, .string gt, .string gu, .slice gA gi.length gc, .slice gB gm.length gd]) rfl (zak HA0.out) ?_))
   refine (HG.out _ HX0.out).mono ?_
   rintro e7 w7 ⟨rfl, hx7⟩
   have HX7 := q_ (HX0.out.trans hx7)
   have HZ7 := q_ ((hx7.block _ (zaf HZ0.out)).trans HZ0.out)
   have HA7 := q_ ((hx7.block _ (zaf HA0.out)).trans HA0.out)
   have c0' : w7.cell? ⟨w.heap.size, 0, none⟩ = some (.int .i64 17) := cell_of_row _ _ 0 _ _ _ ((hx7.block _ (zaf HE0.out)).trans HE0.out)
   clear hx7
   go_wp2_with fail
   refine (truthR_ok false _).mono ?_
   rintro e9 w9 ⟨rfl, hx9⟩
   have HZ9 := q_ ((hx9.block _ (zaf HZ7.out)).trans HZ7.out)
   have HX9 := q_ (HX7.out.trans hx9)
   clear hx9
   go_wp2_with ((with_reducible refine za4 ?_; refine zad rfl 27 _ _ rfl (w.heap.size + 2) 0 rfl (zbb false) rfl zaa rfl 27 _ HZ9.out (by simp [zeroCells, zbb]) (zcn false) ?_))
   exact bodyPost_ret (v := .tuple #[.agg (zbb false).toArray, .int .i64 0]) (zah Tryz.results79 rfl zae zaa rfl (zai HZ9.out (by simp [zeroCells, zbb]))) rfl (zdl rfl (HX9.out.setRow (by omega) _))
  | some i =>

   have hh : res = yes true := by rw [← HR.out]; unfold oneV; rw [if_pos (by omega), attr_has (attrs_rec (v := .mk 6 gb gn gs gt gu gi gm) rfl), hf]; rfl
   subst hh
   rw [hf] at HG
   have HG : Hid (∀ X, Ext w X → Calls Tryz.prog 109 #[.agg #[.int .i64 6, .bool gb, .int .i64 gn, .string gs, .string gt, .string gu, .slice gA gi.length gc, .slice gB gm.length gd], .string en] X fun e w' => e = .returned (.int .i64 (i : Int)) ∧ Ext X w') := HG
   have hlt : i < gi.length := Val.find_lt hf
   have hlim : gi.length ≤ LIM := by obtain ⟨_, _, e, ⟨h, _, _⟩, _⟩ := items_rows Hv.out; exact h
   rw [zaq] at hlim
   clear hf
   go_enter Tryz.func79, Tryz.ntmps79
   go_wp2_with (first | (with_reducible refine zaw ?_; refine zab rfl 27 _ rfl (w.heap.size + 1) 0 rfl zae zaa (cs := [.int .i64 6, .bool gb, .int .i64 gn, .string gs, .string gt, .string gu, .slice gA gi.length gc, .slice gB gm.length gd]) rfl (zak HA0.out) ?_))
   refine (HG.out _ HX0.out).mono ?_
   rintro e7 w7 ⟨rfl, hx7⟩
   have HX7 := q_ (HX0.out.trans hx7)
   have HZ7 := q_ ((hx7.block _ (zaf HZ0.out)).trans HZ0.out)
   have HA7 := q_ ((hx7.block _ (zaf HA0.out)).trans HA0.out)
   have c0' : w7.cell? ⟨w.heap.size, 0, none⟩ = some (.int .i64 17) := cell_of_row _ _ 0 _ _ _ ((hx7.block _ (zaf HE0.out)).trans HE0.out)
   clear hx7
   go_wp2_with fail
   refine (truthR_ok true _).mono ?_
   rintro e9 w9 ⟨rfl, hx9⟩
   have HZ9 := q_ ((hx9.block _ (zaf HZ7.out)).trans HZ7.out)
   have HX9 := q_ (HX7.out.trans hx9)
   clear hx9
   go_wp2_with ((with_reducible refine za4 ?_; refine zad rfl 27 _ _ rfl (w.heap.size + 2) 0 rfl (zbb true) rfl zaa rfl 27 _ HZ9.out (by simp [zeroCells, zbb]) (zcn true) ?_))
   exact bodyPost_ret (v := .tuple #[.agg (zbb true).toArray, .int .i64 0]) (zah Tryz.results79 rfl zae zaa rfl (zai HZ9.out (by simp [zeroCells, zbb]))) rfl (zdl rfl (HX9.out.setRow (by omega) _))
 by_cases h4 : gk = 4
 case neg =>
  have t4 : (gk != 4) = true := by simpa using h4
  have t6 : (gk != 6) = true := by simpa using h6
  have hh : res = no 30 := by rw [← HR.out]; unfold oneV; rw [if_pos (by omega)]; exact attr_kind (v := .mk gk gb gn gs gt gu gi gm) h4 h6
  subst hh
  clear h4 h6
  go_enter Tryz.func79, Tryz.ntmps79
  go_wp2_with fail
  exact bodyPost_ret (v := .tuple #[.agg (show List Value from zeroCells).toArray, .int .i64 30]) (zah Tryz.results79 rfl zae zaa rfl (zak HZ0.out)) rfl (zbo (by decide) rfl HX0.out)
 subst h4
 have HFi := q_ (fun (X : World) (hX : Ext w X) => find5_ok T c (.slice cA c.length cc) (gt, gu) X (fun b hb => Nat.lt_of_lt_of_le (HT.out b hb) hX.size) (HEn.out.2.1.alike (Alike.of_ext hX HT.out)))
 cases hi : idx (c.map Ent.uid) (gt, gu) with
 | none =>
  have hh : res = yes false := by rw [← HR.out]; unfold oneV; rw [if_pos (by omega)]; exact attr_none17 (v := .mk 4 gb gn gs gt gu gi gm) rfl hi
  subst hh
  have HF : Hid (∀ X, Ext w X → Calls Tryz.prog 38 #[.slice cA c.length cc, .agg #[.string gt, .string gu]] X fun e w' => e = .returned (.int .i64 (-1)) ∧ Ext X w') := q_ fun X hX => by have h := HFi.out X hX; rw [ze8 hi] at h; exact h
  clear hi HFi h6
  go_enter Tryz.func79, Tryz.ntmps79
  go_wp2_with (first | (with_reducible refine zaw ?_; refine zab rfl 23 _ rfl (w.heap.size + 1) 4 rfl zbh za6 (cs := [.string gt, .string gu]) rfl (zcd (pre := [.int .i64 4, .bool gb, .int .i64 gn, .string gs]) (cs := [.string gt, .string gu]) (r := [.slice gA gi.length gc, .slice gB gm.length gd]) HA0.out) ?_))
  refine (HF.out _ HX0.out).mono ?_
  rintro e6 w6 ⟨rfl, hx6⟩
  have HX6 := q_ (HX0.out.trans hx6)
  have HZ6 := q_ ((hx6.block _ (zaf HZ0.out)).trans HZ0.out)
  have HE6 := q_ ((hx6.block _ (zaf HE0.out)).trans HE0.out)
  have c0 : w6.cell? ⟨w.heap.size, 0, none⟩ = some (.int .i64 17) := cell_of_row _ _ 0 _ _ _ HE6.out
  clear hx6
  go_wp2_with fail
  refine (truthR_ok false _).mono ?_
  rintro e9 w9 ⟨rfl, hx9⟩
  have HZ9 := q_ ((hx9.block _ (zaf HZ6.out)).trans HZ6.out)
  have HX9 := q_ (HX6.out.trans hx9)
  clear hx9
  go_wp2_with ((with_reducible refine za4 ?_; refine zad rfl 27 _ _ rfl (w.heap.size + 2) 0 rfl (zbb false) rfl zaa rfl 27 _ HZ9.out (by simp [zeroCells, zbb]) (zcn false) ?_))
  exact bodyPost_ret (v := .tuple #[.agg (zbb false).toArray, .int .i64 0]) (zah Tryz.results79 rfl zae zaa rfl (zai HZ9.out (by simp [zeroCells, zbb]))) rfl (zdl rfl (HX9.out.setRow (by omega) _))
 | some k =>
  have hkl : k < c.length := by have := idx_lt hi; simpa using this
  obtain ⟨x, hx⟩ : ∃ x, c[k]? = some x := ⟨_, List.getElem?_eq_getElem hkl⟩
  have HF : Hid (∀ X, Ext w X → Calls Tryz.prog 38 #[.slice cA c.length cc, .agg #[.string gt, .string gu]] X fun e w' => e = .returned (.int .i64 (k : Int)) ∧ Ext X w') := q_ fun X hX => by have h := HFi.out X hX; rw [zdf hi] at h; exact h
  have hat := attrs_ent (v := .mk 4 gb gn gs gt gu gi gm) rfl hi hx
  have hents := HEn.out.2.1
  obtain ⟨_, _, eC, ⟨hc1, _, hc2⟩, hcr⟩ := hents
  injection eC with e1 e2 e3
  subst e1 e3
  clear e2
  rw [zaq] at hc1
  rw [zaj] at hc2
  obtain ⟨cb, co, eB, hScb, hcrow⟩ := hcr (by omega)
  cases eB
  obtain ⟨ecs, hec, hea⟩ := hcrow k x hx
  have hec : CellsAt w cb (co + k * 11) ecs := hec
  obtain ⟨_, _, _, _, _, acs, hac, hav, _⟩ := zd6 hec hea
  obtain ⟨xu, xp, xa⟩ := x
  have hat : zbl c (.mk 4 gb gn gs gt gu gi gm) = (xa, true, 0) := hat
  have hav : Val.At T w xa acs := hav
  obtain ⟨yk, yb, yn, ys, yt, yu, yi, ym⟩ := xa
  obtain ⟨yA, yc, yB, yd, rfl⟩ := Val.At.opened hav
  have Hac := q_ hac
  have Hv := q_ hav
  have HScb := q_ hScb
  clear hi hx hec hea hac hav hcrow hcr hScb HFi h6
  have HG : Hid (∀ X, Ext w X → Calls Tryz.prog 109 #[.agg #[.int .i64 yk, .bool yb, .int .i64 yn, .string ys, .string yt, .string yu, .slice yA yi.length yc, .slice yB ym.length yd], .string en] X fun e w' => e = .returned (.int .i64 (pos ((Val.mk yk yb yn ys yt yu yi ym).find en))) ∧ Ext X w') := q_ fun X hX => getR_ok (Val.mk yk yb yn ys yt yu yi ym) en T X [.int .i64 yk, .bool yb, .int .i64 yn, .string ys, .string yt, .string yu, .slice yA yi.length yc, .slice yB ym.length yd] (fun b hb => Nat.lt_of_lt_of_le (HT.out b hb) hX.size) (Val.At.alike (Alike.of_ext hX HT.out) _ _ Hv.out)
  cases hf : (Val.mk yk yb yn ys yt yu yi ym).find en with
  | none =>
   have hh : res = yes false := by rw [← HR.out]; unfold oneV; rw [if_pos (by omega), attr_has hat, hf]; rfl
   subst hh
   rw [hf] at HG
   have HG : Hid (∀ X, Ext w X → Calls Tryz.prog 109 #[.agg #[.int .i64 yk, .bool yb, .int .i64 yn, .string ys, .string yt, .string yu, .slice yA yi.length yc, .slice yB ym.length yd], .string en] X fun e w' => e = .returned (.int .i64 (-1)) ∧ Ext X w') := HG
   clear hf
   go_enter Tryz.func79, Tryz.ntmps79
   go_wp2_with (first | (with_reducible refine zaw ?_; refine zab rfl 23 _ rfl (w.heap.size + 1) 4 rfl zbh za6 (cs := [.string gt, .string gu]) rfl (zcd (pre := [.int .i64 4, .bool gb, .int .i64 gn, .string gs]) (cs := [.string gt, .string gu]) (r := [.slice gA gi.length gc, .slice gB gm.length gd]) HA0.out) ?_))
   refine (HF.out _ HX0.out).mono ?_
   rintro e6 w6 ⟨rfl, hx6⟩
   have HX6 := q_ (HX0.out.trans hx6)
   have HZ6 := q_ ((hx6.block _ (zaf HZ0.out)).trans HZ0.out)
   have HE6 := q_ ((hx6.block _ (zaf HE0.out)).trans HE0.out)
   have HA6 := q_ ((hx6.block _ (zaf HA0.out)).trans HA0.out)
   have hac6 : CellsAt w6 cb (co + k * 11 + 3) [.int .i64 yk, .bool yb, .int .i64 yn, .string ys, .string yt, .string yu, .slice yA yi.length yc, .slice yB ym.length yd] := Hac.out.alike HScb.out (Alike.of_ext HX6.out HT.out)
   have Hac6 := q_ hac6
   clear hx6 hac6
   obtain ⟨wb, hWb⟩ : ∃ W, W = w6.setRow (w.heap.size + 1) #[.int .i64 yk, .bool yb, .int .i64 yn, .string ys, .string yt, .string yu, .slice yA yi.length yc, .slice yB ym.length yd] := ⟨_, rfl⟩
   have HXb : Hid (Ext w wb) := q_ (by rw [hWb]; exact HX6.out.setRow (by omega) _)
   have HZb : Hid (wb.heap[w.heap.size + 2]? = some (.cells zeroCells.toArray 27 (0, 0))) := q_ (by rw [hWb]; exact ((GrownBy.setRow w6 (w.heap.size + 1) _).block _ (zaf HZ6.out) (fun e => by injection e; omega)).trans HZ6.out)
   have HEb : Hid (wb.heap[w.heap.size]? = some (.cells #[.int .i64 17, .int .i64 lk, .bool lb, .int .i64 ln, .string ls, .string lt, .string lu, .slice lA ll lc, .slice lB lm ld, .string en, .slice eK ekl ec, .slice eN enl ed] 30 (0, 0))) := q_ (by rw [hWb]; exact ((GrownBy.setRow w6 (w.heap.size + 1) _).block _ (zaf HE6.out) (fun e => by injection e; omega)).trans HE6.out)
   have HAb : Hid (wb.heap[w.heap.size + 1]? = some (.cells #[.int .i64 yk, .bool yb, .int .i64 yn, .string ys, .string yt, .string yu, .slice yA yi.length yc, .slice yB ym.length yd] 27 (0, 0))) := q_ (by rw [hWb]; exact zbi HA6.out _)
   have c9 : wb.cell? ⟨w.heap.size, 9, none⟩ = some (.string en) := cell_of_row _ _ 9 _ _ _ HEb.out
   have c0 : wb.cell? ⟨w.heap.size, 0, none⟩ = some (.int .i64 17) := cell_of_row _ _ 0 _ _ _ HEb.out
   have HWb := q_ hWb
   clear hWb
   go_wp2_with (first | (with_reducible refine zaw ?_; refine zab rfl 27 _ rfl cb (co + k * 11 + 3) rfl zae zaa (cs := [.int .i64 yk, .bool yb, .int .i64 yn, .string ys, .string yt, .string yu, .slice yA yi.length yc, .slice yB ym.length yd]) rfl Hac6.out ?_) | (with_reducible refine za4 ?_; refine zb7 rfl 27 _ _ rfl (w.heap.size + 1) rfl [.int .i64 yk, .bool yb, .int .i64 yn, .string ys, .string yt, .string yu, .slice yA yi.length yc, .slice yB ym.length yd] rfl zaa rfl 27 _ HA6.out (by simp) Hv.out.one fun wz hwz => ?_; obtain rfl := hwz.trans HWb.out.symm; clear hwz) | (with_reducible refine zaw ?_; refine zab rfl 27 _ rfl (w.heap.size + 1) 0 rfl zae zaa (cs := [.int .i64 yk, .bool yb, .int .i64 yn, .string ys, .string yt, .string yu, .slice yA yi.length yc, .slice yB ym.length yd]) rfl (zak HAb.out) ?_))
   refine (HG.out _ HXb.out).mono ?_
   rintro e7 w7 ⟨rfl, hx7⟩
   have HX7 := q_ (HXb.out.trans hx7)
   have HZ7 := q_ ((hx7.block _ (zaf HZb.out)).trans HZb.out)
   have HA7 := q_ ((hx7.block _ (zaf HAb.out)).trans HAb.out)
   have c0' : w7.cell? ⟨w.heap.size, 0, none⟩ = some (.int .i64 17) := cell_of_row _ _ 0 _ _ _ ((hx7.block _ (zaf HEb.out)).trans HEb.out)
   clear hx7 c0 c9
   go_wp2_with fail
   refine (truthR_ok false _).mono ?_
   rintro e9 w9 ⟨rfl, hx9⟩
   have HZ9 := q_ ((hx9.block _ (zaf HZ7.out)).trans HZ7.out)
   have HX9 := q_ (HX7.out.trans hx9)
   clear hx9
   go_wp2_with ((with_reducible refine za4 ?_; refine zad rfl 27 _ _ rfl (w.heap.size + 2) 0 rfl (zbb false) rfl zaa rfl 27 _ HZ9.out (by simp [zeroCells, zbb]) (zcn false) ?_))
   exact bodyPost_ret (v := .tuple #[.agg (zbb false).toArray, .int .i64 0]) (zah Tryz.results79 rfl zae zaa rfl (zai HZ9.out (by simp [zeroCells, zbb]))) rfl (zdl rfl (HX9.out.setRow (by omega) _))
  | some i =>

   have hh : res = yes true := by rw [← HR.out]; unfold oneV; rw [if_pos (by omega), attr_has hat, hf]; rfl
   subst hh
   rw [hf] at HG
   have HG : Hid (∀ X, Ext w X → Calls Tryz.prog 109 #[.agg #[.int .i64 yk, .bool yb, .int .i64 yn, .string ys, .string yt, .string yu, .slice yA yi.length yc, .slice yB ym.length yd], .string en] X fun e w' => e = .returned (.int .i64 (i : Int)) ∧ Ext X w') := HG
   have hlt : i < yi.length := Val.find_lt hf
   have hlim : yi.length ≤ LIM := by obtain ⟨_, _, e, ⟨h, _, _⟩, _⟩ := items_rows Hv.out; exact h
   rw [zaq] at hlim
   clear hf
   go_enter Tryz.func79, Tryz.ntmps79
   go_wp2_with (first | (with_reducible refine zaw ?_; refine zab rfl 23 _ rfl (w.heap.size + 1) 4 rfl zbh za6 (cs := [.string gt, .string gu]) rfl (zcd (pre := [.int .i64 4, .bool gb, .int .i64 gn, .string gs]) (cs := [.string gt, .string gu]) (r := [.slice gA gi.length gc, .slice gB gm.length gd]) HA0.out) ?_))
   refine (HF.out _ HX0.out).mono ?_
   rintro e6 w6 ⟨rfl, hx6⟩
   have HX6 := q_ (HX0.out.trans hx6)
   have HZ6 := q_ ((hx6.block _ (zaf HZ0.out)).trans HZ0.out)
   have HE6 := q_ ((hx6.block _ (zaf HE0.out)).trans HE0.out)
   have HA6 := q_ ((hx6.block _ (zaf HA0.out)).trans HA0.out)
   have hac6 : CellsAt w6 cb (co + k * 11 + 3) [.int .i64 yk, .bool yb, .int .i64 yn, .string ys, .string yt, .string yu, .slice yA yi.length yc, .slice yB ym.length yd] := Hac.out.alike HScb.out (Alike.of_ext HX6.out HT.out)
   have Hac6 := q_ hac6
   clear hx6 hac6
   obtain ⟨wb, hWb⟩ : ∃ W, W = w6.setRow (w.heap.size + 1) #[.int .i64 yk, .bool yb, .int .i64 yn, .string ys, .string yt, .string yu, .slice yA yi.length yc, .slice yB ym.length yd] := ⟨_, rfl⟩
   have HXb : Hid (Ext w wb) := q_ (by rw [hWb]; exact HX6.out.setRow (by omega) _)
   have HZb : Hid (wb.heap[w.heap.size + 2]? = some (.cells zeroCells.toArray 27 (0, 0))) := q_ (by rw [hWb]; exact ((GrownBy.setRow w6 (w.heap.size + 1) _).block _ (zaf HZ6.out) (fun e => by injection e; omega)).trans HZ6.out)
   have HEb : Hid (wb.heap[w.heap.size]? = some (.cells #[.int .i64 17, .int .i64 lk, .bool lb, .int .i64 ln, .string ls, .string lt, .string lu, .slice lA ll lc, .slice lB lm ld, .string en, .slice eK ekl ec, .slice eN enl ed] 30 (0, 0))) := q_ (by rw [hWb]; exact ((GrownBy.setRow w6 (w.heap.size + 1) _).block _ (zaf HE6.out) (fun e => by injection e; omega)).trans HE6.out)
   have HAb : Hid (wb.heap[w.heap.size + 1]? = some (.cells #[.int .i64 yk, .bool yb, .int .i64 yn, .string ys, .string yt, .string yu, .slice yA yi.length yc, .slice yB ym.length yd] 27 (0, 0))) := q_ (by rw [hWb]; exact zbi HA6.out _)
   have c9 : wb.cell? ⟨w.heap.size, 9, none⟩ = some (.string en) := cell_of_row _ _ 9 _ _ _ HEb.out
   have c0 : wb.cell? ⟨w.heap.size, 0, none⟩ = some (.int .i64 17) := cell_of_row _ _ 0 _ _ _ HEb.out
   have HWb := q_ hWb
   clear hWb
   go_wp2_with (first | (with_reducible refine zaw ?_; refine zab rfl 27 _ rfl cb (co + k * 11 + 3) rfl zae zaa (cs := [.int .i64 yk, .bool yb, .int .i64 yn, .string ys, .string yt, .string yu, .slice yA yi.length yc, .slice yB ym.length yd]) rfl Hac6.out ?_) | (with_reducible refine za4 ?_; refine zb7 rfl 27 _ _ rfl (w.heap.size + 1) rfl [.int .i64 yk, .bool yb, .int .i64 yn, .string ys, .string yt, .string yu, .slice yA yi.length yc, .slice yB ym.length yd] rfl zaa rfl 27 _ HA6.out (by simp) Hv.out.one fun wz hwz => ?_; obtain rfl := hwz.trans HWb.out.symm; clear hwz) | (with_reducible refine zaw ?_; refine zab rfl 27 _ rfl (w.heap.size + 1) 0 rfl zae zaa (cs := [.int .i64 yk, .bool yb, .int .i64 yn, .string ys, .string yt, .string yu, .slice yA yi.length yc, .slice yB ym.length yd]) rfl (zak HAb.out) ?_))
   refine (HG.out _ HXb.out).mono ?_
   rintro e7 w7 ⟨rfl, hx7⟩
   have HX7 := q_ (HXb.out.trans hx7)
   have HZ7 := q_ ((hx7.block _ (zaf HZb.out)).trans HZb.out)
   have HA7 := q_ ((hx7.block _ (zaf HAb.out)).trans HAb.out)
   have c0' : w7.cell? ⟨w.heap.size, 0, none⟩ = some (.int .i64 17) := cell_of_row _ _ 0 _ _ _ ((hx7.block _ (zaf HEb.out)).trans HEb.out)
   clear hx7 c0 c9
   go_wp2_with fail
   refine (truthR_ok true _).mono ?_
   rintro e9 w9 ⟨rfl, hx9⟩
   have HZ9 := q_ ((hx9.block _ (zaf HZ7.out)).trans HZ7.out)
   have HX9 := q_ (HX7.out.trans hx9)
   clear hx9
   go_wp2_with ((with_reducible refine za4 ?_; refine zad rfl 27 _ _ rfl (w.heap.size + 2) 0 rfl (zbb true) rfl zaa rfl 27 _ HZ9.out (by simp [zeroCells, zbb]) (zcn true) ?_))
   exact bodyPost_ret (v := .tuple #[.agg (zbb true).toArray, .int .i64 0]) (zah Tryz.results79 rfl zae zaa rfl (zai HZ9.out (by simp [zeroCells, zbb]))) rfl (zdl rfl (HX9.out.setRow (by omega) _))
theorem oneR_18 (T : Nat → Prop) (c : List Ent) (cv : Value) (a : Val) (lk : Int) (lb : Bool) (ln : Int) (ls lt lu : ByteArray) (lA : Option Addr) (ll lc : Nat) (lB : Option Addr) (lm ld : Nat) (en : ByteArray) (eK : Option Addr) (ekl ec : Nat) (eN : Option Addr) (enl ed : Nat) (w : World) (ca : List Value) (hT : ∀ b, T b → b < w.heap.size) (ha : Val.At T w a ca) (hen : EntsIn T w c cv) :
  Calls Tryz.prog 79 #[.agg ([.int .i64 18, .int .i64 lk, .bool lb, .int .i64 ln, .string ls, .string lt, .string lu, .slice lA ll lc, .slice lB lm ld, .string en, .slice eK ekl ec, .slice eN enl ed] : List Value).toArray, .agg ca.toArray, cv] w (RefAns T (oneV c 18 en a) w) := by
 have HEn := q_ hen
 obtain ⟨cA, cc, rfl, _⟩ := id hen.2.1
 obtain ⟨gk, gb, gn, gs, gt, gu, gi, gm⟩ := a
 obtain ⟨gA, gc, gB, gd, rfl⟩ := ha.opened
 have HIa := q_ (ha.bounds.2.1)
 obtain ⟨res, hres⟩ : ∃ r, oneV c 18 en (.mk gk gb gn gs gt gu gi gm) = r := ⟨_, rfl⟩
 rw [hres]
 have HR := q_ hres
 obtain ⟨p0, p1, p2, ps, px⟩ := zdn w (.cells #[.int .i64 18, .int .i64 lk, .bool lb, .int .i64 ln, .string ls, .string lt, .string lu, .slice lA ll lc, .slice lB lm ld, .string en, .slice eK ekl ec, .slice eN enl ed] 30) (.cells #[.int .i64 gk, .bool gb, .int .i64 gn, .string gs, .string gt, .string gu, .slice gA gi.length gc, .slice gB gm.length gd] 27) (.cells zeroCells.toArray 27)
 have HE0 := q_ p0
 have HA0 := q_ p1
 have HZ0 := q_ p2
 have HX0 := q_ px
 clear p0 p1 p2 ps px
 have Ha := q_ ha
 have HT := q_ hT
 clear ha hT hen hres
 by_cases h6 : gk = 6
 ·subst h6
  have Hv : Hid (Val.At T w (Val.mk 6 gb gn gs gt gu gi gm) [.int .i64 6, .bool gb, .int .i64 gn, .string gs, .string gt, .string gu, .slice gA gi.length gc, .slice gB gm.length gd]) := Ha
  have HG : Hid (∀ X, Ext w X → Calls Tryz.prog 109 #[.agg #[.int .i64 6, .bool gb, .int .i64 gn, .string gs, .string gt, .string gu, .slice gA gi.length gc, .slice gB gm.length gd], .string en] X fun e w' => e = .returned (.int .i64 (pos ((Val.mk 6 gb gn gs gt gu gi gm).find en))) ∧ Ext X w') := q_ fun X hX => getR_ok (Val.mk 6 gb gn gs gt gu gi gm) en T X [.int .i64 6, .bool gb, .int .i64 gn, .string gs, .string gt, .string gu, .slice gA gi.length gc, .slice gB gm.length gd] (fun b hb => Nat.lt_of_lt_of_le (HT.out b hb) hX.size) (Val.At.alike (Alike.of_ext hX HT.out) _ _ Hv.out)
  cases hf : (Val.mk 6 gb gn gs gt gu gi gm).find en with
  | none =>
   have hh : res = no 31 := by rw [← HR.out]; unfold oneV; rw [if_pos (by omega), attr_not (attrs_rec (v := .mk 6 gb gn gs gt gu gi gm) rfl) hf]
   subst hh
   rw [hf] at HG
   have HG : Hid (∀ X, Ext w X → Calls Tryz.prog 109 #[.agg #[.int .i64 6, .bool gb, .int .i64 gn, .string gs, .string gt, .string gu, .slice gA gi.length gc, .slice gB gm.length gd], .string en] X fun e w' => e = .returned (.int .i64 (-1)) ∧ Ext X w') := HG
   clear hf
   go_enter Tryz.func79, Tryz.ntmps79
   go_wp2_with (first | (with_reducible refine zaw ?_; refine zab rfl 27 _ rfl (w.heap.size + 1) 0 rfl zae zaa (cs := [.int .i64 6, .bool gb, .int .i64 gn, .string gs, .string gt, .string gu, .slice gA gi.length gc, .slice gB gm.length gd]) rfl (zak HA0.out) ?_))
   refine (HG.out _ HX0.out).mono ?_
   rintro e7 w7 ⟨rfl, hx7⟩
   have HX7 := q_ (HX0.out.trans hx7)
   have HZ7 := q_ ((hx7.block _ (zaf HZ0.out)).trans HZ0.out)
   have HA7 := q_ ((hx7.block _ (zaf HA0.out)).trans HA0.out)
   have c0' : w7.cell? ⟨w.heap.size, 0, none⟩ = some (.int .i64 18) := cell_of_row _ _ 0 _ _ _ ((hx7.block _ (zaf HE0.out)).trans HE0.out)
   clear hx7
   go_wp2_with ((with_reducible refine za4 ?_; refine zad rfl 27 _ _ rfl (w.heap.size + 2) 0 rfl zeroCells rfl zaa rfl 27 _ HZ7.out (by simp [zeroCells]) za2 ?_))
   exact bodyPost_ret (v := .tuple #[.agg (show List Value from zeroCells).toArray, .int .i64 31]) (zah Tryz.results79 rfl zae zaa rfl (zai HZ7.out (by simp [zeroCells]))) rfl (zbo (by decide) rfl (HX7.out.setRow (by omega) _))
  | some i =>
   have hlt := Val.find_lt hf
   have hlt : i < gi.length := hlt
   obtain ⟨y, hy⟩ : ∃ y, gi[i]? = some y := ⟨_, List.getElem?_eq_getElem hlt⟩
   have hrows := items_rows Hv.out
   obtain ⟨_, _, eA, ⟨hl1, _, hl2⟩, hrow⟩ := hrows
   injection eA with e1 e2 e3
   subst e1 e3
   clear e2
   rw [zaq] at hl1
   rw [zaj] at hl2
   obtain ⟨b, o, eB, hSb, hrw⟩ := hrow (by omega)
   cases eB
   obtain ⟨cs, hca, hya⟩ := hrw i y hy
   obtain ⟨zk, zb, zn, zs, zt, zu, zi, zm⟩ := y
   obtain ⟨zA, zc, zB, zd, rfl⟩ := Val.At.opened hya
   have hca : CellsAt w b (o + i * 8) [.int .i64 zk, .bool zb, .int .i64 zn, .string zs, .string zt, .string zu, .slice zA zi.length zc, .slice zB zm.length zd] := hca
   have hya : Val.At T w (Val.mk zk zb zn zs zt zu zi zm) [.int .i64 zk, .bool zb, .int .i64 zn, .string zs, .string zt, .string zu, .slice zA zi.length zc, .slice zB zm.length zd] := hya
   have Hcz := q_ hca
   have Hvz := q_ hya
   have HSb := q_ hSb
   have hh : res = (Val.mk zk zb zn zs zt zu zi zm, 0) := by rw [← HR.out]; unfold oneV; rw [if_pos (by omega), attr_get (attrs_rec (v := .mk 6 gb gn gs gt gu gi gm) rfl) hf hy]
   subst hh
   rw [hf] at HG
   have HG : Hid (∀ X, Ext w X → Calls Tryz.prog 109 #[.agg #[.int .i64 6, .bool gb, .int .i64 gn, .string gs, .string gt, .string gu, .slice (some ⟨b, o, none⟩) gi.length gc, .slice gB gm.length gd], .string en] X fun e w' => e = .returned (.int .i64 (i : Int)) ∧ Ext X w') := HG

   clear hf hy hrow hrw hca hya hSb
   go_enter Tryz.func79, Tryz.ntmps79
   go_wp2_with (first | (with_reducible refine zaw ?_; refine zab rfl 27 _ rfl (w.heap.size + 1) 0 rfl zae zaa (cs := [.int .i64 6, .bool gb, .int .i64 gn, .string gs, .string gt, .string gu, .slice (some ⟨b, o, none⟩) gi.length gc, .slice gB gm.length gd]) rfl (zak HA0.out) ?_))
   refine (HG.out _ HX0.out).mono ?_
   rintro e7 w7 ⟨rfl, hx7⟩
   have HX7 := q_ (HX0.out.trans hx7)
   have HZ7 := q_ ((hx7.block _ (zaf HZ0.out)).trans HZ0.out)
   have HA7 := q_ ((hx7.block _ (zaf HA0.out)).trans HA0.out)
   have c0' : w7.cell? ⟨w.heap.size, 0, none⟩ = some (.int .i64 18) := cell_of_row _ _ 0 _ _ _ ((hx7.block _ (zaf HE0.out)).trans HE0.out)
   clear hx7
   have c7 : w7.cell? ⟨w.heap.size + 1, 6, none⟩ = some (.slice (some ⟨b, o, none⟩) gi.length gc) := cell_of_row _ _ 6 _ _ _ HA7.out
   have hca7 : CellsAt w7 b (o + i * 8) [.int .i64 zk, .bool zb, .int .i64 zn, .string zs, .string zt, .string zu, .slice zA zi.length zc, .slice zB zm.length zd] := Hcz.out.alike HSb.out (Alike.of_ext HX7.out HT.out)
   have Hcz7 := q_ hca7
   have HV7 := q_ (Val.At.mono (fun b hb => (Or.inl hb : T b ∨ Fresh (w.heap.size + 3) w7 b)) _ _ (Val.At.alike (Alike.of_ext HX7.out HT.out) _ _ Hvz.out))
   clear hca7
   go_wp2_with (first | (with_reducible refine zaw ?_; refine zab rfl 27 _ rfl b (o + i * 8) rfl zae zaa (cs := [.int .i64 zk, .bool zb, .int .i64 zn, .string zs, .string zt, .string zu, .slice zA zi.length zc, .slice zB zm.length zd]) rfl Hcz7.out ?_) | (with_reducible refine za4 ?_; refine zad rfl 27 _ _ rfl (w.heap.size + 2) 0 rfl [.int .i64 zk, .bool zb, .int .i64 zn, .string zs, .string zt, .string zu, .slice zA zi.length zc, .slice zB zm.length zd] rfl zaa rfl 27 _ HZ7.out (by simp [zeroCells]) Hvz.out.one ?_))
   exact bodyPost_ret (v := .tuple #[.agg (show List Value from [.int .i64 zk, .bool zb, .int .i64 zn, .string zs, .string zt, .string zu, .slice zA zi.length zc, .slice zB zm.length zd]).toArray, .int .i64 0]) (zah Tryz.results79 rfl zae zaa rfl (zai HZ7.out (by simp [zeroCells]))) rfl ⟨_, _, rfl, fun _ => rfl, ret_in HV7.out HT.out (by omega) (Ext.refl _) (by omega) HX7.out.size _, HX7.out.setRow (by omega) _⟩
 by_cases h4 : gk = 4
 case neg =>
  have t4 : (gk != 4) = true := by simpa using h4
  have t6 : (gk != 6) = true := by simpa using h6
  have hh : res = no 30 := by rw [← HR.out]; unfold oneV; rw [if_pos (by omega)]; exact attr_kind (v := .mk gk gb gn gs gt gu gi gm) h4 h6
  subst hh
  clear h4 h6
  go_enter Tryz.func79, Tryz.ntmps79
  go_wp2_with fail
  exact bodyPost_ret (v := .tuple #[.agg (show List Value from zeroCells).toArray, .int .i64 30]) (zah Tryz.results79 rfl zae zaa rfl (zak HZ0.out)) rfl (zbo (by decide) rfl HX0.out)
 subst h4
 have HFi := q_ (fun (X : World) (hX : Ext w X) => find5_ok T c (.slice cA c.length cc) (gt, gu) X (fun b hb => Nat.lt_of_lt_of_le (HT.out b hb) hX.size) (HEn.out.2.1.alike (Alike.of_ext hX HT.out)))
 cases hi : idx (c.map Ent.uid) (gt, gu) with
 | none =>
  have hh : res = no 22 := by rw [← HR.out]; unfold oneV; rw [if_pos (by omega)]; exact attr_none18 (v := .mk 4 gb gn gs gt gu gi gm) rfl hi
  subst hh
  have HF : Hid (∀ X, Ext w X → Calls Tryz.prog 38 #[.slice cA c.length cc, .agg #[.string gt, .string gu]] X fun e w' => e = .returned (.int .i64 (-1)) ∧ Ext X w') := q_ fun X hX => by have h := HFi.out X hX; rw [ze8 hi] at h; exact h
  clear hi HFi h6
  go_enter Tryz.func79, Tryz.ntmps79
  go_wp2_with (first | (with_reducible refine zaw ?_; refine zab rfl 23 _ rfl (w.heap.size + 1) 4 rfl zbh za6 (cs := [.string gt, .string gu]) rfl (zcd (pre := [.int .i64 4, .bool gb, .int .i64 gn, .string gs]) (cs := [.string gt, .string gu]) (r := [.slice gA gi.length gc, .slice gB gm.length gd]) HA0.out) ?_))
  refine (HF.out _ HX0.out).mono ?_
  rintro e6 w6 ⟨rfl, hx6⟩
  have HX6 := q_ (HX0.out.trans hx6)
  have HZ6 := q_ ((hx6.block _ (zaf HZ0.out)).trans HZ0.out)
  have HE6 := q_ ((hx6.block _ (zaf HE0.out)).trans HE0.out)
  have c0 : w6.cell? ⟨w.heap.size, 0, none⟩ = some (.int .i64 18) := cell_of_row _ _ 0 _ _ _ HE6.out
  clear hx6
  go_wp2_with ((with_reducible refine za4 ?_; refine zad rfl 27 _ _ rfl (w.heap.size + 2) 0 rfl zeroCells rfl zaa rfl 27 _ HZ6.out (by simp [zeroCells]) za2 ?_))
  exact bodyPost_ret (v := .tuple #[.agg (show List Value from zeroCells).toArray, .int .i64 22]) (zah Tryz.results79 rfl zae zaa rfl (zai HZ6.out (by simp [zeroCells]))) rfl (zbo (by decide) rfl (HX6.out.setRow (by omega) _))
 | some k =>
  have hkl : k < c.length := by have := idx_lt hi; simpa using this
  obtain ⟨x, hx⟩ : ∃ x, c[k]? = some x := ⟨_, List.getElem?_eq_getElem hkl⟩
  have HF : Hid (∀ X, Ext w X → Calls Tryz.prog 38 #[.slice cA c.length cc, .agg #[.string gt, .string gu]] X fun e w' => e = .returned (.int .i64 (k : Int)) ∧ Ext X w') := q_ fun X hX => by have h := HFi.out X hX; rw [zdf hi] at h; exact h
  have hat := attrs_ent (v := .mk 4 gb gn gs gt gu gi gm) rfl hi hx
  have hents := HEn.out.2.1
  obtain ⟨_, _, eC, ⟨hc1, _, hc2⟩, hcr⟩ := hents
  injection eC with e1 e2 e3
  subst e1 e3
  clear e2
  rw [zaq] at hc1
  rw [zaj] at hc2
  obtain ⟨cb, co, eB, hScb, hcrow⟩ := hcr (by omega)
  cases eB
  obtain ⟨ecs, hec, hea⟩ := hcrow k x hx
  have hec : CellsAt w cb (co + k * 11) ecs := hec
  obtain ⟨_, _, _, _, _, acs, hac, hav, _⟩ := zd6 hec hea
  obtain ⟨xu, xp, xa⟩ := x
  have hat : zbl c (.mk 4 gb gn gs gt gu gi gm) = (xa, true, 0) := hat
  have hav : Val.At T w xa acs := hav
  obtain ⟨yk, yb, yn, ys, yt, yu, yi, ym⟩ := xa
  obtain ⟨yA, yc, yB, yd, rfl⟩ := Val.At.opened hav
  have Hac := q_ hac
  have Hv := q_ hav
  have HScb := q_ hScb
  clear hi hx hec hea hac hav hcrow hcr hScb HFi h6
  have HG : Hid (∀ X, Ext w X → Calls Tryz.prog 109 #[.agg #[.int .i64 yk, .bool yb, .int .i64 yn, .string ys, .string yt, .string yu, .slice yA yi.length yc, .slice yB ym.length yd], .string en] X fun e w' => e = .returned (.int .i64 (pos ((Val.mk yk yb yn ys yt yu yi ym).find en))) ∧ Ext X w') := q_ fun X hX => getR_ok (Val.mk yk yb yn ys yt yu yi ym) en T X [.int .i64 yk, .bool yb, .int .i64 yn, .string ys, .string yt, .string yu, .slice yA yi.length yc, .slice yB ym.length yd] (fun b hb => Nat.lt_of_lt_of_le (HT.out b hb) hX.size) (Val.At.alike (Alike.of_ext hX HT.out) _ _ Hv.out)
  cases hf : (Val.mk yk yb yn ys yt yu yi ym).find en with
  | none =>
   have hh : res = no 31 := by rw [← HR.out]; unfold oneV; rw [if_pos (by omega), attr_not hat hf]
   subst hh
   rw [hf] at HG
   have HG : Hid (∀ X, Ext w X → Calls Tryz.prog 109 #[.agg #[.int .i64 yk, .bool yb, .int .i64 yn, .string ys, .string yt, .string yu, .slice yA yi.length yc, .slice yB ym.length yd], .string en] X fun e w' => e = .returned (.int .i64 (-1)) ∧ Ext X w') := HG
   clear hf
   go_enter Tryz.func79, Tryz.ntmps79
   go_wp2_with (first | (with_reducible refine zaw ?_; refine zab rfl 23 _ rfl (w.heap.size + 1) 4 rfl zbh za6 (cs := [.string gt, .string gu]) rfl (zcd (pre := [.int .i64 4, .bool gb, .int .i64 gn, .string gs]) (cs := [.string gt, .string gu]) (r := [.slice gA gi.length gc, .slice gB gm.length gd]) HA0.out) ?_))
   refine (HF.out _ HX0.out).mono ?_
   rintro e6 w6 ⟨rfl, hx6⟩
   have HX6 := q_ (HX0.out.trans hx6)
   have HZ6 := q_ ((hx6.block _ (zaf HZ0.out)).trans HZ0.out)
   have HE6 := q_ ((hx6.block _ (zaf HE0.out)).trans HE0.out)
   have HA6 := q_ ((hx6.block _ (zaf HA0.out)).trans HA0.out)
   have hac6 : CellsAt w6 cb (co + k * 11 + 3) [.int .i64 yk, .bool yb, .int .i64 yn, .string ys, .string yt, .string yu, .slice yA yi.length yc, .slice yB ym.length yd] := Hac.out.alike HScb.out (Alike.of_ext HX6.out HT.out)
   have Hac6 := q_ hac6
   clear hx6 hac6
   obtain ⟨wb, hWb⟩ : ∃ W, W = w6.setRow (w.heap.size + 1) #[.int .i64 yk, .bool yb, .int .i64 yn, .string ys, .string yt, .string yu, .slice yA yi.length yc, .slice yB ym.length yd] := ⟨_, rfl⟩
   have HXb : Hid (Ext w wb) := q_ (by rw [hWb]; exact HX6.out.setRow (by omega) _)
   have HZb : Hid (wb.heap[w.heap.size + 2]? = some (.cells zeroCells.toArray 27 (0, 0))) := q_ (by rw [hWb]; exact ((GrownBy.setRow w6 (w.heap.size + 1) _).block _ (zaf HZ6.out) (fun e => by injection e; omega)).trans HZ6.out)
   have HEb : Hid (wb.heap[w.heap.size]? = some (.cells #[.int .i64 18, .int .i64 lk, .bool lb, .int .i64 ln, .string ls, .string lt, .string lu, .slice lA ll lc, .slice lB lm ld, .string en, .slice eK ekl ec, .slice eN enl ed] 30 (0, 0))) := q_ (by rw [hWb]; exact ((GrownBy.setRow w6 (w.heap.size + 1) _).block _ (zaf HE6.out) (fun e => by injection e; omega)).trans HE6.out)
   have HAb : Hid (wb.heap[w.heap.size + 1]? = some (.cells #[.int .i64 yk, .bool yb, .int .i64 yn, .string ys, .string yt, .string yu, .slice yA yi.length yc, .slice yB ym.length yd] 27 (0, 0))) := q_ (by rw [hWb]; exact zbi HA6.out _)
   have c9 : wb.cell? ⟨w.heap.size, 9, none⟩ = some (.string en) := cell_of_row _ _ 9 _ _ _ HEb.out
   have c0 : wb.cell? ⟨w.heap.size, 0, none⟩ = some (.int .i64 18) := cell_of_row _ _ 0 _ _ _ HEb.out
   have HWb := q_ hWb
   clear hWb
   go_wp2_with (first | (with_reducible refine zaw ?_; refine zab rfl 27 _ rfl cb (co + k * 11 + 3) rfl zae zaa (cs := [.int .i64 yk, .bool yb, .int .i64 yn, .string ys, .string yt, .string yu, .slice yA yi.length yc, .slice yB ym.length yd]) rfl Hac6.out ?_) | (with_reducible refine za4 ?_; refine zb7 rfl 27 _ _ rfl (w.heap.size + 1) rfl [.int .i64 yk, .bool yb, .int .i64 yn, .string ys, .string yt, .string yu, .slice yA yi.length yc, .slice yB ym.length yd] rfl zaa rfl 27 _ HA6.out (by simp) Hv.out.one fun wz hwz => ?_; obtain rfl := hwz.trans HWb.out.symm; clear hwz) | (with_reducible refine zaw ?_; refine zab rfl 27 _ rfl (w.heap.size + 1) 0 rfl zae zaa (cs := [.int .i64 yk, .bool yb, .int .i64 yn, .string ys, .string yt, .string yu, .slice yA yi.length yc, .slice yB ym.length yd]) rfl (zak HAb.out) ?_))
   refine (HG.out _ HXb.out).mono ?_
   rintro e7 w7 ⟨rfl, hx7⟩
   have HX7 := q_ (HXb.out.trans hx7)
   have HZ7 := q_ ((hx7.block _ (zaf HZb.out)).trans HZb.out)
   have HA7 := q_ ((hx7.block _ (zaf HAb.out)).trans HAb.out)
   have c0' : w7.cell? ⟨w.heap.size, 0, none⟩ = some (.int .i64 18) := cell_of_row _ _ 0 _ _ _ ((hx7.block _ (zaf HEb.out)).trans HEb.out)
   clear hx7 c0 c9
   go_wp2_with ((with_reducible refine za4 ?_; refine zad rfl 27 _ _ rfl (w.heap.size + 2) 0 rfl zeroCells rfl zaa rfl 27 _ HZ7.out (by simp [zeroCells]) za2 ?_))
   exact bodyPost_ret (v := .tuple #[.agg (show List Value from zeroCells).toArray, .int .i64 31]) (zah Tryz.results79 rfl zae zaa rfl (zai HZ7.out (by simp [zeroCells]))) rfl (zbo (by decide) rfl (HX7.out.setRow (by omega) _))
  | some i =>
   have hlt := Val.find_lt hf
   have hlt : i < yi.length := hlt
   obtain ⟨y, hy⟩ : ∃ y, yi[i]? = some y := ⟨_, List.getElem?_eq_getElem hlt⟩
   have hrows := items_rows Hv.out
   obtain ⟨_, _, eA, ⟨hl1, _, hl2⟩, hrow⟩ := hrows
   injection eA with e1 e2 e3
   subst e1 e3
   clear e2
   rw [zaq] at hl1
   rw [zaj] at hl2
   obtain ⟨b, o, eB, hSb, hrw⟩ := hrow (by omega)
   cases eB
   obtain ⟨cs, hca, hya⟩ := hrw i y hy
   obtain ⟨zk, zb, zn, zs, zt, zu, zi, zm⟩ := y
   obtain ⟨zA, zc, zB, zd, rfl⟩ := Val.At.opened hya
   have hca : CellsAt w b (o + i * 8) [.int .i64 zk, .bool zb, .int .i64 zn, .string zs, .string zt, .string zu, .slice zA zi.length zc, .slice zB zm.length zd] := hca
   have hya : Val.At T w (Val.mk zk zb zn zs zt zu zi zm) [.int .i64 zk, .bool zb, .int .i64 zn, .string zs, .string zt, .string zu, .slice zA zi.length zc, .slice zB zm.length zd] := hya
   have Hcz := q_ hca
   have Hvz := q_ hya
   have HSb := q_ hSb
   have hh : res = (Val.mk zk zb zn zs zt zu zi zm, 0) := by rw [← HR.out]; unfold oneV; rw [if_pos (by omega), attr_get hat hf hy]
   subst hh
   rw [hf] at HG
   have HG : Hid (∀ X, Ext w X → Calls Tryz.prog 109 #[.agg #[.int .i64 yk, .bool yb, .int .i64 yn, .string ys, .string yt, .string yu, .slice (some ⟨b, o, none⟩) yi.length yc, .slice yB ym.length yd], .string en] X fun e w' => e = .returned (.int .i64 (i : Int)) ∧ Ext X w') := HG

   clear hf hy hrow hrw hca hya hSb
   go_enter Tryz.func79, Tryz.ntmps79
   go_wp2_with (first | (with_reducible refine zaw ?_; refine zab rfl 23 _ rfl (w.heap.size + 1) 4 rfl zbh za6 (cs := [.string gt, .string gu]) rfl (zcd (pre := [.int .i64 4, .bool gb, .int .i64 gn, .string gs]) (cs := [.string gt, .string gu]) (r := [.slice gA gi.length gc, .slice gB gm.length gd]) HA0.out) ?_))
   refine (HF.out _ HX0.out).mono ?_
   rintro e6 w6 ⟨rfl, hx6⟩
   have HX6 := q_ (HX0.out.trans hx6)
   have HZ6 := q_ ((hx6.block _ (zaf HZ0.out)).trans HZ0.out)
   have HE6 := q_ ((hx6.block _ (zaf HE0.out)).trans HE0.out)
   have HA6 := q_ ((hx6.block _ (zaf HA0.out)).trans HA0.out)
   have hac6 : CellsAt w6 cb (co + k * 11 + 3) [.int .i64 yk, .bool yb, .int .i64 yn, .string ys, .string yt, .string yu, .slice (some ⟨b, o, none⟩) yi.length yc, .slice yB ym.length yd] := Hac.out.alike HScb.out (Alike.of_ext HX6.out HT.out)
   have Hac6 := q_ hac6
   clear hx6 hac6
   obtain ⟨wb, hWb⟩ : ∃ W, W = w6.setRow (w.heap.size + 1) #[.int .i64 yk, .bool yb, .int .i64 yn, .string ys, .string yt, .string yu, .slice (some ⟨b, o, none⟩) yi.length yc, .slice yB ym.length yd] := ⟨_, rfl⟩
   have HXb : Hid (Ext w wb) := q_ (by rw [hWb]; exact HX6.out.setRow (by omega) _)
   have HZb : Hid (wb.heap[w.heap.size + 2]? = some (.cells zeroCells.toArray 27 (0, 0))) := q_ (by rw [hWb]; exact ((GrownBy.setRow w6 (w.heap.size + 1) _).block _ (zaf HZ6.out) (fun e => by injection e; omega)).trans HZ6.out)
   have HEb : Hid (wb.heap[w.heap.size]? = some (.cells #[.int .i64 18, .int .i64 lk, .bool lb, .int .i64 ln, .string ls, .string lt, .string lu, .slice lA ll lc, .slice lB lm ld, .string en, .slice eK ekl ec, .slice eN enl ed] 30 (0, 0))) := q_ (by rw [hWb]; exact ((GrownBy.setRow w6 (w.heap.size + 1) _).block _ (zaf HE6.out) (fun e => by injection e; omega)).trans HE6.out)
   have HAb : Hid (wb.heap[w.heap.size + 1]? = some (.cells #[.int .i64 yk, .bool yb, .int .i64 yn, .string ys, .string yt, .string yu, .slice (some ⟨b, o, none⟩) yi.length yc, .slice yB ym.length yd] 27 (0, 0))) := q_ (by rw [hWb]; exact zbi HA6.out _)
   have c9 : wb.cell? ⟨w.heap.size, 9, none⟩ = some (.string en) := cell_of_row _ _ 9 _ _ _ HEb.out
   have c0 : wb.cell? ⟨w.heap.size, 0, none⟩ = some (.int .i64 18) := cell_of_row _ _ 0 _ _ _ HEb.out
   have HWb := q_ hWb
   clear hWb
   go_wp2_with (first | (with_reducible refine zaw ?_; refine zab rfl 27 _ rfl cb (co + k * 11 + 3) rfl zae zaa (cs := [.int .i64 yk, .bool yb, .int .i64 yn, .string ys, .string yt, .string yu, .slice (some ⟨b, o, none⟩) yi.length yc, .slice yB ym.length yd]) rfl Hac6.out ?_) | (with_reducible refine za4 ?_; refine zb7 rfl 27 _ _ rfl (w.heap.size + 1) rfl [.int .i64 yk, .bool yb, .int .i64 yn, .string ys, .string yt, .string yu, .slice (some ⟨b, o, none⟩) yi.length yc, .slice yB ym.length yd] rfl zaa rfl 27 _ HA6.out (by simp) Hv.out.one fun wz hwz => ?_; obtain rfl := hwz.trans HWb.out.symm; clear hwz) | (with_reducible refine zaw ?_; refine zab rfl 27 _ rfl (w.heap.size + 1) 0 rfl zae zaa (cs := [.int .i64 yk, .bool yb, .int .i64 yn, .string ys, .string yt, .string yu, .slice (some ⟨b, o, none⟩) yi.length yc, .slice yB ym.length yd]) rfl (zak HAb.out) ?_))
   refine (HG.out _ HXb.out).mono ?_
   rintro e7 w7 ⟨rfl, hx7⟩
   have HX7 := q_ (HXb.out.trans hx7)
   have HZ7 := q_ ((hx7.block _ (zaf HZb.out)).trans HZb.out)
   have HA7 := q_ ((hx7.block _ (zaf HAb.out)).trans HAb.out)
   have c0' : w7.cell? ⟨w.heap.size, 0, none⟩ = some (.int .i64 18) := cell_of_row _ _ 0 _ _ _ ((hx7.block _ (zaf HEb.out)).trans HEb.out)
   clear hx7 c0 c9
   have c7 : w7.cell? ⟨w.heap.size + 1, 6, none⟩ = some (.slice (some ⟨b, o, none⟩) yi.length yc) := cell_of_row _ _ 6 _ _ _ HA7.out
   have hca7 : CellsAt w7 b (o + i * 8) [.int .i64 zk, .bool zb, .int .i64 zn, .string zs, .string zt, .string zu, .slice zA zi.length zc, .slice zB zm.length zd] := Hcz.out.alike HSb.out (Alike.of_ext HX7.out HT.out)
   have Hcz7 := q_ hca7
   have HV7 := q_ (Val.At.mono (fun b hb => (Or.inl hb : T b ∨ Fresh (w.heap.size + 3) w7 b)) _ _ (Val.At.alike (Alike.of_ext HX7.out HT.out) _ _ Hvz.out))
   clear hca7
   go_wp2_with (first | (with_reducible refine zaw ?_; refine zab rfl 27 _ rfl b (o + i * 8) rfl zae zaa (cs := [.int .i64 zk, .bool zb, .int .i64 zn, .string zs, .string zt, .string zu, .slice zA zi.length zc, .slice zB zm.length zd]) rfl Hcz7.out ?_) | (with_reducible refine za4 ?_; refine zad rfl 27 _ _ rfl (w.heap.size + 2) 0 rfl [.int .i64 zk, .bool zb, .int .i64 zn, .string zs, .string zt, .string zu, .slice zA zi.length zc, .slice zB zm.length zd] rfl zaa rfl 27 _ HZ7.out (by simp [zeroCells]) Hvz.out.one ?_))
   exact bodyPost_ret (v := .tuple #[.agg (show List Value from [.int .i64 zk, .bool zb, .int .i64 zn, .string zs, .string zt, .string zu, .slice zA zi.length zc, .slice zB zm.length zd]).toArray, .int .i64 0]) (zah Tryz.results79 rfl zae zaa rfl (zai HZ7.out (by simp [zeroCells]))) rfl ⟨_, _, rfl, fun _ => rfl, ret_in HV7.out HT.out (by omega) (Ext.refl _) (by omega) HX7.out.size _, HX7.out.setRow (by omega) _⟩
def OneR (c : List Ent) (op : Int) (en : ByteArray) : Prop := ∀ (T : Nat → Prop) (cv : Value) (a : Val) (lk : Int) (lb : Bool) (ln : Int) (ls lt lu : ByteArray) (lA : Option Addr) (ll lc : Nat) (lB : Option Addr) (lm ld : Nat) (eK : Option Addr) (ekl ec : Nat) (eN : Option Addr) (enl ed : Nat) (w : World) (ca : List Value), (∀ b, T b → b < w.heap.size) → Val.At T w a ca → EntsIn T w c cv →
 Calls Tryz.prog 79 #[.agg ([.int .i64 op, .int .i64 lk, .bool lb, .int .i64 ln, .string ls, .string lt, .string lu, .slice lA ll lc, .slice lB lm ld, .string en, .slice eK ekl ec, .slice eN enl ed] : List Value).toArray, .agg ca.toArray, cv] w (RefAns T (oneV c op en a) w)
theorem oneR_17t (c : List Ent) (en : ByteArray) : OneR c 17 en := fun T cv a lk lb ln ls lt lu lA ll lc lB lm ld eK ekl ec eN enl ed w ca hT ha hen => oneR_17 T c cv a lk lb ln ls lt lu lA ll lc lB lm ld en eK ekl ec eN enl ed w ca hT ha hen
theorem oneR_18t (c : List Ent) (en : ByteArray) : OneR c 18 en := fun T cv a lk lb ln ls lt lu lA ll lc lB lm ld eK ekl ec eN enl ed w ca hT ha hen => oneR_18 T c cv a lk lb ln ls lt lu lA ll lc lB lm ld en eK ekl ec eN enl ed w ca hT ha hen
end Go.Proofs.YtebfoimbdljbmaaGreatDoor
