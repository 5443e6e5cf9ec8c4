/-
  Entities that are few and small enough: the measure of the statements of layers 13 to 17. The conditions: they lie in memory as they should.
-/
import Derived.Test.YtebfoimbdljbmaaGreatDoorMeasQ
import Derived.Test.YtebfoimbdljbmaaGreatDoorGc
import Derived.Test.YtebfoimbdljbmaaGreatDoorExpMQ
import Derived.Test.YtebfoimbdljbmaaGreatDoorEvEQ
import Derived.Test.YtebfoimbdljbmaaGreatDoorGl
namespace Go.Proofs.YtebfoimbdljbmaaGreatDoor
open Go.RowKit
open Lib renaming hid → q_
set_option maxRecDepth 100000
set_option maxHeartbeats 1600000
structure CrowdE (l : List Ent) : Prop where
 len : l.length ≤ 20
 each : ∀ e ∈ l, e.ps.length ≤ 20 ∧ e.av.dep ≤ 57
theorem crowd_ok14 (S : Nat → Prop) (l : List Ent) (v : Value) (w : World) (hS : ∀ b, S b → b < w.heap.size) (hl : entR.RowsAt S w l v) :
  Calls Tryz.prog 19 #[v] w (SomeBool (fun r => r = true → CrowdE l) w) := by
 obtain ⟨A, cap, rfl, ⟨hl0, hl1, hl2⟩, hlr⟩ := hl
 rw [zaq] at hl0
 rw [zaj] at hl2
 have HS := q_ hS
 have HL := q_ hlr
 clear hS hlr
 go_enter Tryz.func19, Tryz.ntmps19
 go_wp2_with fail
 ·go_ret
  exact ⟨false, by simp, rfl, Ext.refl _⟩
 ·have hle : l.length ≤ 20 := by omega
  go_loopw [3] (fun i' wr => ∃ j : Nat, j ≤ l.length ∧ i' = .int .i64 j ∧ Hid (Ext w wr) ∧ Hid (∀ i x, i < j → l[i]? = some x → x.ps.length ≤ 20 ∧ x.av.dep ≤ 57)) (fun i' _ => l.length - (intOf i').toNat)
  case atStart => exact ⟨0, Nat.zero_le _, rfl, q_ (Ext.refl _), q_ fun _ _ h => by omega⟩
  case round =>
   obtain ⟨j, hj, rfl, HX, HA⟩ := hrel
   by_cases hlt : j < l.length
   ·obtain ⟨b, o, rfl, hSb, hrow⟩ := HL.out (by omega)
    obtain ⟨x, hx⟩ : ∃ x, l[j]? = some x := ⟨_, List.getElem?_eq_getElem hlt⟩
    obtain ⟨cs, hca, hxa⟩ := hrow j x hx
    obtain ⟨_, _, _, _, ⟨pv, k2, hpv⟩, acs, hac, hat, hal⟩ := zd6 (hca.alike hSb (Alike.of_ext HX.out HS.out)) (entR.alike hxa (Alike.of_ext HX.out HS.out))
    obtain ⟨A1, c1, rfl, ⟨p0, p1, p2⟩, _⟩ := hpv
    rw [zaq] at p0
    rw [zaj] at p2
    obtain ⟨ka, ba, na, ta, uta, uia, Aa, la, ca, Ab, lb, cb, rfl⟩ := hat.shape
    have Hx := q_ hx
    have Hac := q_ hac
    have Hat := q_ hat
    have Hal := q_ hal
    have K2 := q_ (show wr.cell? ⟨b, o + j * 11 + 2, none⟩ = _ from k2)
    clear hx hac hat hal hca hxa hrow k2
    have HSr := q_ (show ∀ b, S b → b < wr.heap.size from fun b hb => Nat.lt_of_lt_of_le (HS.out b hb) HX.out.size)
    go_wp2_with (first | refine zab rfl 27 _ rfl b (o + j * 11 + 3) rfl zae zaa Hal.out Hac.out ?_)
    refine (slight_ok14 _ x.av 0 S wr [_, _, _, _, _, _, _, _] (Nat.le_refl _) (by omega) HSr.out Hat.out).mono ?_
    rintro e w2 ⟨r, hr, rfl, hx2⟩
    have HX2 := q_ (HX.out.trans hx2)
    have HR := q_ hr
    have k3 : w2.cell? ⟨b, o + j * 11 + 2, none⟩ = _ := hx2.cell K2.out
    clear hx2 hr
    cases r with
    | false =>
     go_wp2_with fail
     go_ret
     exact ⟨false, by simp, rfl, HX2.out⟩
    | true =>
     by_cases hp : 20 < x.ps.length
     ·go_wp2_with fail
      go_ret
      exact ⟨false, by simp, rfl, HX2.out⟩
     ·go_wp2_with fail
      go_roundw
      case rel => exact ⟨j + 1, by omega, by go_num, HX2, q_ fun i y hi hy => by
       by_cases hij : i = j
       ·subst hij; rw [Hx.out] at hy; cases hy; exact ⟨by omega, by have := HR.out (by trivial); omega⟩
       ·exact HA.out i y (by omega) hy⟩
      case measure => simp [intOf]; omega
   ·go_wp2_with fail
    go_ret
    exact ⟨true, fun _ => ⟨hle, fun e he => by
     obtain ⟨i, hi⟩ := List.mem_iff_getElem?.1 he
     exact HA.out i e (by have := (List.getElem?_eq_some_iff.1 hi).1; omega) hi⟩, rfl, HX.out⟩
end Go.Proofs.YtebfoimbdljbmaaGreatDoor

/-
  Whether an expression, a request and entities are small enough, as the fourteenth layer's statements ask. The conditions: what is handed in lies in memory as it should.
-/
namespace Go.Proofs.YtebfoimbdljbmaaGreatDoor
open Go.RowKit
open Lib renaming hid → q_
set_option maxRecDepth 100000
set_option maxHeartbeats 4000000
structure Small14 (e : Exp) (q : Req) (l : List Ent) : Prop where
 dep : e.dep ≤ 61
 lits : e.lits 57
 ctx : q.ctx.dep ≤ 57
 crowd : CrowdE l
theorem fit14_ok (e : Exp) (q : Req) (l : List Ent) (w : World) (cs qc : List Value) (v : Value) (he : InX w e cs) (hq : InR w q qc) (hl : entR.RowsAt (fun b => b < w.heap.size) w l v) :
  Calls Tryz.prog 11 #[.agg cs.toArray, .agg qc.toArray, v] w (SomeBool (fun r => r = true → Small14 e q l) w) := by
 have HXe := q_ he
 have HLl := q_ hl
 obtain ⟨vk, vb, vn, vs, vt, vu, vA, vl, vc, vB, vm, vd, rfl, hv⟩ := hq.shape
 have HV := q_ hv
 obtain ⟨eo, ev, en, eks, ens⟩ := e
 obtain ⟨lk, lb, ln, ls, lt, lu, lA, ll, lc, lB, lm, ld, eK, ec, eN, ed, hcs, _⟩ := Exp.At.shape he
 obtain rfl : cs = [.int .i64 eo, .int .i64 lk, .bool lb, .int .i64 ln, .string ls, .string lt, .string lu, .slice lA ll lc, .slice lB lm ld, .string en, .slice eK eks.length ec, .slice eN ens.length ed] := hcs
 obtain ⟨A, cap, rfl, _⟩ := id hl
 obtain ⟨p0, p1, ps, px⟩ := zdr w (.cells #[.int .i64 eo, .int .i64 lk, .bool lb, .int .i64 ln, .string ls, .string lt, .string lu, .slice lA ll lc, .slice lB lm ld, .string en, .slice eK eks.length ec, .slice eN ens.length ed] 30) (.cells #[.string q.pr.1, .string q.pr.2, .string q.act.1, .string q.act.2, .string q.res.1, .string q.res.2, .int .i64 vk, .bool vb, .int .i64 vn, .string vs, .string vt, .string vu, .slice vA vl vc, .slice vB vm vd] 34)
 have HE0 := q_ p0
 have HQ0 := q_ p1
 have HX0 := q_ px
 clear p0 p1 ps px he hq hl hv
 go_enter Tryz.func11, Tryz.ntmps11
 go_wp2_with ((with_reducible refine zaw ?_; refine zab rfl 30 _ rfl w.heap.size 0 rfl zar zao (cs := [.int .i64 eo, .int .i64 lk, .bool lb, .int .i64 ln, .string ls, .string lt, .string lu, .slice lA ll lc, .slice lB lm ld, .string en, .slice eK eks.length ec, .slice eN ens.length ed]) rfl (zak HE0.out) ?_))
 refine (fewX_ok14 (SizeOf.sizeOf (Exp.mk eo ev en eks ens)) (.mk eo ev en eks ens) 0 (fun b => b < w.heap.size) _ [.int .i64 eo, .int .i64 lk, .bool lb, .int .i64 ln, .string ls, .string lt, .string lu, .slice lA ll lc, .slice lB lm ld, .string en, .slice eK eks.length ec, .slice eN ens.length ed] (Nat.le_refl _) (by omega) (fun b hb => Nat.lt_of_lt_of_le hb HX0.out.size) (Exp.At.alike (Alike.of_ext HX0.out fun _ h => h) _ _ HXe.out)).mono ?_
 rintro e1 w1 ⟨r1, hr1, rfl, hx⟩
 have HX1 := q_ (HX0.out.trans hx)
 have HE1 := q_ ((hx.block _ (zaf HE0.out)).trans HE0.out)
 have HQ1 := q_ ((hx.block _ (zaf HQ0.out)).trans HQ0.out)
 have HR1 := q_ hr1
 clear hr1
 clear hx HE0 HQ0 HX0
 cases r1 with
 | false =>
  go_wp2_with fail
  go_ret
  exact ⟨false, fun h => (by cases h), rfl, HX1.out⟩
 | true =>
 have c0 : w1.cell? ⟨w.heap.size, 0, none⟩ = some (.int .i64 eo) := cell_of_row _ _ 0 _ _ _ HE1.out
 have c1 : w1.cell? ⟨w.heap.size, 1, none⟩ = some (.int .i64 lk) := cell_of_row _ _ 1 _ _ _ HE1.out
 have c2 : w1.cell? ⟨w.heap.size, 2, none⟩ = some (.bool lb) := cell_of_row _ _ 2 _ _ _ HE1.out
 have c3 : w1.cell? ⟨w.heap.size, 3, none⟩ = some (.int .i64 ln) := cell_of_row _ _ 3 _ _ _ HE1.out
 have c4 : w1.cell? ⟨w.heap.size, 4, none⟩ = some (.string ls) := cell_of_row _ _ 4 _ _ _ HE1.out
 have c5 : w1.cell? ⟨w.heap.size, 5, none⟩ = some (.string lt) := cell_of_row _ _ 5 _ _ _ HE1.out
 have c6 : w1.cell? ⟨w.heap.size, 6, none⟩ = some (.string lu) := cell_of_row _ _ 6 _ _ _ HE1.out
 have c7 : w1.cell? ⟨w.heap.size, 7, none⟩ = some (.slice lA ll lc) := cell_of_row _ _ 7 _ _ _ HE1.out
 have c8 : w1.cell? ⟨w.heap.size, 8, none⟩ = some (.slice lB lm ld) := cell_of_row _ _ 8 _ _ _ HE1.out
 have c9 : w1.cell? ⟨w.heap.size, 9, none⟩ = some (.string en) := cell_of_row _ _ 9 _ _ _ HE1.out
 have c10 : w1.cell? ⟨w.heap.size, 10, none⟩ = some (.slice eK eks.length ec) := cell_of_row _ _ 10 _ _ _ HE1.out
 have c11 : w1.cell? ⟨w.heap.size, 11, none⟩ = some (.slice eN ens.length ed) := cell_of_row _ _ 11 _ _ _ HE1.out
 go_wp2_with fail
 refine (sizeX_ok14 (SizeOf.sizeOf (Exp.mk eo ev en eks ens)) (.mk eo ev en eks ens) (fun b => b < w.heap.size) _ [.int .i64 eo, .int .i64 lk, .bool lb, .int .i64 ln, .string ls, .string lt, .string lu, .slice lA ll lc, .slice lB lm ld, .string en, .slice eK eks.length ec, .slice eN ens.length ed] (Nat.le_refl _) (fun b hb => Nat.lt_of_lt_of_le hb HX1.out.size) (Exp.At.alike (Alike.of_ext HX1.out fun _ h => h) _ _ HXe.out)).mono ?_
 rintro e2 w2 ⟨z, _, rfl, hx⟩
 have HX2 := q_ (HX1.out.trans hx)
 have HE2 := q_ ((hx.block _ (zaf HE1.out)).trans HE1.out)
 have HQ2 := q_ ((hx.block _ (zaf HQ1.out)).trans HQ1.out)
 clear c0 c1 c2 c3 c4 c5 c6 c7 c8 c9 c10 c11
 clear hx HE1 HQ1 HX1
 by_cases hz : 200 < z
 ·have t0 : decide (200 < z) = true := by simpa using hz
  clear hz
  go_wp2_with fail
  go_ret
  exact ⟨false, fun h => (by cases h), rfl, HX2.out⟩
 have t0 : decide (200 < z) = false := by simpa using hz
 clear hz
 go_wp2_with ((with_reducible refine zaw ?_; refine zab rfl 30 _ rfl w.heap.size 0 rfl zar zao (cs := [.int .i64 eo, .int .i64 lk, .bool lb, .int .i64 ln, .string ls, .string lt, .string lu, .slice lA ll lc, .slice lB lm ld, .string en, .slice eK eks.length ec, .slice eN ens.length ed]) rfl (zak HE2.out) ?_))
 refine (litsX_ok14 (SizeOf.sizeOf (Exp.mk eo ev en eks ens)) (.mk eo ev en eks ens) (fun b => b < w.heap.size) _ [.int .i64 eo, .int .i64 lk, .bool lb, .int .i64 ln, .string ls, .string lt, .string lu, .slice lA ll lc, .slice lB lm ld, .string en, .slice eK eks.length ec, .slice eN ens.length ed] (Nat.le_refl _) (fun b hb => Nat.lt_of_lt_of_le hb HX2.out.size) (Exp.At.alike (Alike.of_ext HX2.out fun _ h => h) _ _ HXe.out)).mono ?_
 rintro e3 w3 ⟨r3, hr3, rfl, hx⟩
 have HX3 := q_ (HX2.out.trans hx)
 have HE3 := q_ ((hx.block _ (zaf HE2.out)).trans HE2.out)
 have HQ3 := q_ ((hx.block _ (zaf HQ2.out)).trans HQ2.out)
 have HR3 := q_ hr3
 clear hr3
 clear hx HE2 HQ2 HX2
 have hcv := cells_part (cs := [.int .i64 vk, .bool vb, .int .i64 vn, .string vs, .string vt, .string vu, .slice vA vl vc, .slice vB vm vd]) (pre := [.string q.pr.1, .string q.pr.2, .string q.act.1, .string q.act.2, .string q.res.1, .string q.res.2]) HQ3.out
 have HCv := q_ hcv
 clear hcv t0
 go_wp2_with (first | refine zab rfl 27 _ rfl (w.heap.size + 1) 6 rfl zae zaa (cs := [.int .i64 vk, .bool vb, .int .i64 vn, .string vs, .string vt, .string vu, .slice vA vl vc, .slice vB vm vd]) rfl HCv.out ?_)
 refine (slight_ok14 (SizeOf.sizeOf q.ctx) q.ctx 0 (fun b => b < w.heap.size) _ [.int .i64 vk, .bool vb, .int .i64 vn, .string vs, .string vt, .string vu, .slice vA vl vc, .slice vB vm vd] (Nat.le_refl _) (by omega) (fun b hb => Nat.lt_of_lt_of_le hb HX3.out.size) (Val.At.alike (Alike.of_ext HX3.out fun _ h => h) _ _ HV.out)).mono ?_
 rintro e4 w4 ⟨r4, hr4, rfl, hx⟩
 have HX4 := q_ (HX3.out.trans hx)
 have HE4 := q_ ((hx.block _ (zaf HE3.out)).trans HE3.out)
 have HQ4 := q_ ((hx.block _ (zaf HQ3.out)).trans HQ3.out)
 have HR4 := q_ hr4
 clear hr4 HCv
 clear hx HE3 HQ3 HX3
 go_wp2_with fail
 refine (crowd_ok14 (fun b => b < w.heap.size) l _ _ (fun b hb => Nat.lt_of_lt_of_le hb HX4.out.size) (HLl.out.alike (Alike.of_ext HX4.out fun _ h => h))).mono ?_
 rintro e5 w5 ⟨r5, hr5, rfl, hx⟩
 have HX5 := q_ (HX4.out.trans hx)
 have HE5 := q_ ((hx.block _ (zaf HE4.out)).trans HE4.out)
 have HQ5 := q_ ((hx.block _ (zaf HQ4.out)).trans HQ4.out)
 have HR5 := q_ hr5
 clear hr5
 clear hx HE4 HQ4 HX4
 cases r3 with
 | false =>
  go_wp2_with fail
  go_ret
  exact ⟨false, fun h => (by cases h), rfl, HX5.out⟩
 | true =>
 cases r4 with
 | false =>
  go_wp2_with fail
  go_ret
  exact ⟨false, fun h => (by cases h), rfl, HX5.out⟩
 | true =>
 cases r5 with
 | false =>
  go_wp2_with fail
  go_ret
  exact ⟨false, fun h => (by cases h), rfl, HX5.out⟩
 | true =>
  go_wp2_with fail
  go_ret
  exact ⟨true, fun _ => ⟨by have := HR1.out (by trivial); omega, HR3.out (by trivial), by have := HR4.out (by trivial); omega, HR5.out (by trivial)⟩, rfl, HX5.out⟩
end Go.Proofs.YtebfoimbdljbmaaGreatDoor

/-
  How deep an expression is, as the document's own function tells it. The conditions: what is handed in lies in memory as it should; it is not too deep.
-/
namespace Go.Proofs.YtebfoimbdljbmaaGreatDoor
open Go.RowKit
open Lib renaming hid → q_
set_option maxRecDepth 100000
set_option maxHeartbeats 4000000
theorem depthR_ok (n : Nat) : ∀ (e : Exp) (w : World) (cs : List Value), SizeOf.sizeOf e ≤ n → e.dep ≤ 1000000 → InX w e cs →
  Calls Tryz.prog 14 #[.agg cs.toArray] w fun r w' => r = .returned (.int .i64 e.dep) ∧ Ext w w' := by
 induction n with
 | zero => intro e; cases e; simp
 | succ n ih =>
  intro e w cs hn hd he
  obtain ⟨eo, ev, en, eks, ens⟩ := e
  obtain ⟨lk, lb, ln, ls, lt, lu, lA, ll, lc, lB, lm, ld, eK, ec, eN, ed, hcs, _, hev, hek, hen⟩ := Exp.At.shape he
  obtain rfl : cs = [.int .i64 eo, .int .i64 lk, .bool lb, .int .i64 ln, .string ls, .string lt, .string lu, .slice lA ll lc, .slice lB lm ld, .string en, .slice eK eks.length ec, .slice eN ens.length ed] := hcs
  have hev : InW w ev [.int .i64 lk, .bool lb, .int .i64 ln, .string ls, .string lt, .string lu, .slice lA ll lc, .slice lB lm ld] := hev
  have hek : expR.RowsAt (fun b => b < w.heap.size) w eks (.slice eK eks.length ec) := hek
  have hen : StrsAt (fun b => b < w.heap.size) w ens (.slice eN ens.length ed) := hen
  obtain ⟨_, _, eq0, ⟨hk0, hk1, hk2⟩, hkr⟩ := hek
  injection eq0 with eq1 eq2 eq3
  subst eq1 eq3
  obtain ⟨_, _, eq0, hn0, hn1, hn2, _⟩ := id hen
  injection eq0 with eq1 eq4 eq3
  subst eq1 eq3
  rw [zaq] at hk0 hn0
  rw [zaj] at hk2 hn2
  have HK := q_ hkr
  clear eq2 eq4 hkr
  have hd : Exp.deps eks + 1 ≤ 1000000 := by simpa [Exp.dep] using hd
  have HDp : Hid ((Exp.mk eo ev en eks ens).dep = Exp.deps eks + 1) := q_ (by simp [Exp.dep])
  generalize (Exp.mk eo ev en eks ens).dep = res at *
  have Hn := q_ hn
  have IH := q_ ih
  have HX0 := q_ ((Ext.refl w).alloc (.cells #[.int .i64 eo, .int .i64 lk, .bool lb, .int .i64 ln, .string ls, .string lt, .string lu, .slice lA ll lc, .slice lB lm ld, .string en, .slice eK eks.length ec, .slice eN ens.length ed] 30))
  have HB0 := q_ (heap_alloc_new w (.cells #[.int .i64 eo, .int .i64 lk, .bool lb, .int .i64 ln, .string ls, .string lt, .string lu, .slice lA ll lc, .slice lB lm ld, .string en, .slice eK eks.length ec, .slice eN ens.length ed] 30))
  clear he hev hen hn ih
  go_enter Tryz.func14, Tryz.ntmps14
  go_wp2_with fail
  go_loopw [3, 4] (fun m i' wr => ∃ (j z : Nat), j ≤ eks.length ∧ i' = .int .i64 j ∧ m = .int .i64 z ∧ z ≤ Exp.deps eks ∧ Hid (z = Exp.deps (eks.take j)) ∧ Hid (Ext w wr) ∧ Hid (wr.heap[w.heap.size]? = some (.cells #[.int .i64 eo, .int .i64 lk, .bool lb, .int .i64 ln, .string ls, .string lt, .string lu, .slice lA ll lc, .slice lB lm ld, .string en, .slice eK eks.length ec, .slice eN ens.length ed] 30 (0, 0)))) (fun _ i' _ => eks.length - (intOf i').toNat)
  case atStart => exact ⟨0, 0, Nat.zero_le _, rfl, rfl, Nat.zero_le _, q_ (by simp [Exp.deps]), HX0, HB0⟩
  case round =>
   clear HX0 HB0
   obtain ⟨j, z, hj, rfl, rfl, hz, HZ, HX, HB⟩ := hrel
   have c10 := cell_of_row _ _ 10 _ _ _ HB.out
   simp at c10
   by_cases hlt : j < eks.length
   ·obtain ⟨b, o, eA, hSb, hrow⟩ := HK.out (by omega)
    subst eA
    obtain ⟨x, hx⟩ : ∃ x, eks[j]? = some x := ⟨_, List.getElem?_eq_getElem hlt⟩
    obtain ⟨cx, hcx, hxa⟩ := hrow j x hx
    obtain ⟨z1, z2, z3, z4, z5, z6, z7, z8, z9, za, zb, zc, zd, ze, zf, zg, hcs, _⟩ := Exp.At.shape hxa
    subst hcs
    have hcx : CellsAt w b (o + j * 12) [.int .i64 x.op, .int .i64 z1, .bool z2, .int .i64 z3, .string z4, .string z5, .string z6, .slice z7 z8 z9, .slice za zb zc, .string x.name, .slice zd x.kids.length ze, .slice zf x.names.length zg] := hcx
    have Hcx := q_ (hcx.alike hSb (Alike.of_ext HX.out fun _ h => h))
    have Hxa := q_ (InX.ext (e := x) hxa HX.out)
    have Hsz := q_ (show SizeOf.sizeOf x ≤ n by have := Hn.out; have := Exp.size_get hx; simp at *; omega)
    have Htk := q_ (show Exp.deps (eks.take (j + 1)) = max (Exp.deps (eks.take j)) x.dep from Exp.deps_take_succ hx)
    have hxd : x.dep ≤ Exp.deps eks := Exp.deps_mem (List.mem_of_getElem? hx)
    clear hcx hrow hSb hxa hx
    go_wp2_with (first | (with_reducible refine zaw ?_; refine zab rfl 30 _ rfl b (o + j * 12) rfl zar zao rfl Hcx.out ?_))
    refine (IH.out x _ [.int .i64 x.op, .int .i64 z1, .bool z2, .int .i64 z3, .string z4, .string z5, .string z6, .slice z7 z8 z9, .slice za zb zc, .string x.name, .slice zd x.kids.length ze, .slice zf x.names.length zg] Hsz.out (by omega) Hxa.out).mono ?_
    rintro r w2 ⟨rfl, hx2⟩
    have HX2 := q_ (HX.out.trans hx2)
    have HB2 := q_ ((hx2.block _ (zaf HB.out)).trans HB.out)
    have c10' := cell_of_row _ _ 10 _ _ _ HB2.out
    simp at c10'
    clear hx2 HX HB c10
    by_cases hm : z < x.dep
    ·go_wp2_with fail
     go_roundw
     case rel => exact ⟨j + 1, x.dep, by omega, by go_num, by go_num, hxd, q_ (by rw [Htk.out, ← HZ.out]; omega), HX2, HB2⟩
     case measure => simp [intOf]; omega
    ·go_wp2_with fail
     go_roundw
     case rel => exact ⟨j + 1, z, by omega, by go_num, by go_num, hz, q_ (by rw [Htk.out, ← HZ.out]; omega), HX2, HB2⟩
     case measure => simp [intOf]; omega
   ·have hje : j = eks.length := by omega
    subst hje
    have HZ' := q_ (show z = Exp.deps eks by have := HZ.out; rwa [List.take_length] at this)
    clear HZ
    go_wp2_with fail
    go_ret
    exact ⟨zan (by rw [HDp.out, ← HZ'.out]; simp), HX.out⟩
end Go.Proofs.YtebfoimbdljbmaaGreatDoor

/-
  EvalShort: what the statement's own function answers. The conditions: the arguments lie in memory as they should; the table of operators lies as it is laid at the start.
-/
namespace Go.Proofs.YtebfoimbdljbmaaGreatDoor
open Go.RowKit
mutual
theorem Exp.lits_mono {c d : Nat} (h : c ≤ d) : ∀ e : Exp, e.lits c → e.lits d
 | .mk _ v _ kids _, hl => by
  simp only [Exp.lits] at hl ⊢
  exact ⟨by omega, Exp.litsL_mono h kids hl.2⟩
theorem Exp.litsL_mono {c d : Nat} (h : c ≤ d) : ∀ l : List Exp, Exp.litsL c l → Exp.litsL d l
 | [], _ => by simp [Exp.litsL]
 | e :: r, hl => by
  simp only [Exp.litsL] at hl ⊢
  exact ⟨Exp.lits_mono h e hl.1, Exp.litsL_mono h r hl.2⟩
end
end Go.Proofs.YtebfoimbdljbmaaGreatDoor
