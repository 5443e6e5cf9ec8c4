/-
  The document's answer for layer 14: what stands behind the first kid of And, Or, If. The conditions: what is handed in lies in memory as it should; the entities are as they must be; smaller expressions come to what they should.
-/
import Derived.Test.YtebfoimbdljbmaaGreatDoorGn
import Derived.Test.YtebfoimbdljbmaaGreatDoorAskQ
import Derived.Test.YtebfoimbdljbmaaGreatDoorEvGQ
import Derived.Test.YtebfoimbdljbmaaGreatDoorGq
import Derived.Test.YtebfoimbdljbmaaGreatDoorGe
namespace Go.Proofs.YtebfoimbdljbmaaGreatDoor
open Go.RowKit
theorem Tryz.undXs : Tryz.prog.underlying 28 = some (.slice (Tryz.prog.elem 28)) := by kernel_rfl
theorem Tryz.sizXs : ∀ w, (Go.sizeOf (Tryz.prog.elem 28)).run Tryz.prog w = .ok 12 w := fun _ => by kernel_rfl
theorem Tryz.aggXs : ∀ w, (isAgg 28).run Tryz.prog w = .ok false w := fun _ => by kernel_rfl
theorem Tryz.fieldEx3 (g : Nat) : ∀ w, (Instr.fieldAt 30 (.pointer (some ⟨g, 0, none⟩)) 3).run Tryz.prog w = .ok (.pointer (some ⟨g, 10, none⟩)) w := by
 intro w; simp [Instr.fieldAt, go_sem]
def RefOf (A : Int → Prop) (S : Nat → Prop) (q : Req) (c : List Ent) (n : Nat) : Prop := ∀ (e : Exp) (w : World) (cs qc : List Value) (cv : Value), SizeOf.sizeOf e ≤ n → e.fine A → q.ctx.dep ≤ 1000000 → (∀ b, S b → b < w.heap.size) → Exp.At S w e cs → Req.At S w q qc → EntsIn S w c cv →
 Calls Tryz.prog 42 #[.agg cs.toArray, .agg qc.toArray, cv] w (RefAns S (e.ev q c) w)
theorem zone_row {S : Nat → Prop} {w W : World} {g lo : Nat} {z : Val} {cs : List Value} (h : Val.At (fun b => S b ∨ Fresh lo W b) W z cs) (hS : ∀ b, S b → b < w.heap.size) (hg : w.heap.size ≤ g) (hx : Ext w W) (rows : Array Value) (hlo : g < lo := by omega) :
  Val.At (fun b => S b ∨ Fresh w.heap.size (W.setRow g rows) b) (W.setRow g rows) z cs := by
 have hgr := GrownBy.setRow W g rows
 have hsz : W.heap.size ≤ (W.setRow g rows).heap.size := hgr.size
 have hlt : ∀ b, (S b ∨ Fresh lo W b) → b < W.heap.size ∧ b ≠ g := fun b hb => hb.elim (fun hb => by have := hS b hb; have := hx.size; omega) fun hb => ⟨hb.2, by have := hb.1; omega⟩
 refine Val.At.mono (fun b hb => hb.imp id fun hf => ⟨by have := hf.1; omega, Nat.lt_of_lt_of_le hf.2 hsz⟩) _ _ (Val.At.alike (fun b hb => hgr.block b (hlt b hb).1 fun e => ?_) _ _ h)
 injection e with e; exact (hlt b hb).2 e
end Go.Proofs.YtebfoimbdljbmaaGreatDoor

/-
  The document's answer for layer 14: what an expression comes to, one step. The conditions: what is handed in lies in memory as it should; the entities are as they must be; smaller expressions come to what they should.
-/
namespace Go.Proofs.YtebfoimbdljbmaaGreatDoor
open Go.RowKit
open Lib renaming hid → q_
set_option maxRecDepth 100000
set_option maxHeartbeats 4000000
def valS (Z : Nat → Prop) : Rep Val where
 size := 8
 pos := by omega
 At S w x cs := Val.At (fun b => S b ∧ Z b) w x cs
 len h := h.length
 one h := h.one
 alike h k := Val.At.alike (fun b hb => k b hb.1) _ _ h
 mono h k := Val.At.mono (fun b hb => ⟨k b hb.1, hb.2⟩) _ _ h
theorem arity_le (op : Int) : zb3 op ≤ 4 ∧ -1 ≤ zb3 op := by unfold zb3; (repeat' split) <;> omega
theorem badOp_many (op : Int) (k n : Nat) : zcu op k n = ((zdk op == -2) || ((decide (0 ≤ zdk op) && ((k : Int) != zdk op)) || ((op == 20) && ((n : Int) != (k : Int))))) := by
 have ha := arity_le op
 unfold zcu zdk
 by_cases h4 : zb3 op = 4
 ·rw [if_pos h4, h4]; simp
 ·rw [if_neg h4]
  have h1 : decide (3 < zb3 op) = false := by simp; omega
  have h2 : (zb3 op == -2) = false := by simp; omega
  have h3 : ((k : Int) != zb3 op) = decide ((k : Int) ≠ zb3 op) := by by_cases h : (k : Int) = zb3 op <;> simp [h]
  have h5 : (op == 20) = decide (op = 20) := by by_cases h : op = 20 <;> simp [h]
  have h6 : ((n : Int) != (k : Int)) = decide (n ≠ k) := by by_cases h : n = k <;> simp [h] <;> omega
  rw [h1, h2, h3, h5, h6]
theorem list14r {α : Type} {l : List α} (h : l.length = 14) : ∃ a0 a1 a2 a3 a4 a5 a6 a7 a8 a9 a10 a11 a12 a13, l = [a0, a1, a2, a3, a4, a5, a6, a7, a8, a9, a10, a11, a12, a13] := by
 match l, h with
 | [a, b, c, d, e, f, g, i, j, k, m, n, o, p], _ => exact ⟨a, b, c, d, e, f, g, i, j, k, m, n, o, p, rfl⟩
theorem evR_bad {A : Int → Prop} {S : Nat → Prop} {q : Req} {c : List Ent} {n : Nat} (ih : RefOf A S q c n) (op : Int) (ev : Val) (en : ByteArray) (eks : List Exp) (ens : List ByteArray) (hbad : zcu op eks.length ens.length = true) (w : World) (cs qc : List Value) (cv : Value) (hn : SizeOf.sizeOf (Exp.mk op ev en eks ens) ≤ n + 1) (hl : (Exp.mk op ev en eks ens).fine A) (hqd : q.ctx.dep ≤ 1000000) (hS : ∀ b, S b → b < w.heap.size) (he : Exp.At S w (Exp.mk op ev en eks ens) cs) (hq : Req.At S w q qc) (hen : EntsIn S w c cv) :
  Calls Tryz.prog 42 #[.agg cs.toArray, .agg qc.toArray, cv] w (RefAns S (evOp q c op ev en ens (eks.map (Exp.ev q c))) w) := by
 have HS := q_ hS
 have HQa := q_ hq
 have HEa := q_ he
 have HEn := q_ hen
 have HQd := q_ hqd
 have IH := q_ ih
 have HKn := q_ (show ∀ x ∈ eks, SizeOf.sizeOf x ≤ n from fun x hx => by have := Exp.kid_size (Exp.mk op ev en eks ens) hx; omega)
 have HKl := q_ ((Exp.fine_iff.1 hl).2.2)
 have HVd := q_ ((Exp.fine_iff.1 hl).2.1)
 obtain ⟨cA, cc, rfl, _⟩ := id hen.2.1
 obtain ⟨vk, vb, vn, vs, vt, vu, vA, vl, vc, vB, vm, vd, rfl, hqv⟩ := hq.shape
 obtain ⟨lk, lb, ln, ls, lt, lu, lA, ll, lc, lB, lm, ld, eK, ec, eN, ed, hcs, _, hev, hek, hens⟩ := Exp.At.shape he
 obtain rfl : cs = [.int .i64 op, .int .i64 lk, .bool lb, .int .i64 ln, .string ls, .string lt, .string lu, .slice lA ll lc, .slice lB lm ld, .string en, .slice eK eks.length ec, .slice eN ens.length ed] := hcs
 have hek : expR.RowsAt S w eks (.slice eK eks.length ec) := hek
 have hens : StrsAt S w ens (.slice eN ens.length ed) := hens
 have HEv : Hid (Val.At S w ev [.int .i64 lk, .bool lb, .int .i64 ln, .string ls, .string lt, .string lu, .slice lA ll lc, .slice lB lm ld]) := q_ hev
 have HNs := q_ hens
 obtain ⟨_, _, eq0, ⟨hk0, hk1, hk2⟩, hkr⟩ := hek
 injection eq0 with eq1 eq2 eq3
 subst eq1 eq3
 obtain ⟨_, _, eq0, hn0, hn1, hn2, _⟩ := id hens
 injection eq0 with eq1 eq4 eq3
 subst eq1 eq3
 rw [zaq] at hk0 hn0
 rw [zaj] at hk2 hn2
 have HK := q_ hkr
 obtain ⟨res, hres⟩ : ∃ r, evOp q c op ev en ens (eks.map (Exp.ev q c)) = r := ⟨_, rfl⟩
 rw [hres]
 have HR := q_ hres
 obtain ⟨p0, p1, p2, ps, px⟩ := zdn w (.cells #[.int .i64 op, .int .i64 lk, .bool lb, .int .i64 ln, .string ls, .string lt, .string lu, .slice lA ll lc, .slice lB lm ld, .string en, .slice eK eks.length ec, .slice eN ens.length ed] 30) (.cells #[.string q.pr.1, .string q.pr.2, .string q.act.1, .string q.act.2, .string q.res.1, .string q.res.2, .int .i64 vk, .bool vb, .int .i64 vn, .string vs, .string vt, .string vu, .slice vA vl vc, .slice vB vm vd] 34) (.cells zeroCells.toArray 27)
 have HE0 := q_ p0
 have HQ0 := q_ p1
 have HZ0 := q_ p2
 have HX0 := q_ px
 clear p0 p1 p2 ps px
 have HMa := q_ (manyR_ok op (((w.alloc (.cells #[.int .i64 op, .int .i64 lk, .bool lb, .int .i64 ln, .string ls, .string lt, .string lu, .slice lA ll lc, .slice lB lm ld, .string en, .slice eK eks.length ec, .slice eN ens.length ed] 30)).alloc (.cells #[.string q.pr.1, .string q.pr.2, .string q.act.1, .string q.act.2, .string q.res.1, .string q.res.2, .int .i64 vk, .bool vb, .int .i64 vn, .string vs, .string vt, .string vu, .slice vA vl vc, .slice vB vm vd] 34)).alloc (.cells zeroCells.toArray 27)))
 clear eq2 eq4 hkr hn hl hqd hS he hq hqv hen hev hens hres ih
 have hh : res = no 1 := by rw [← HR.out]; unfold evOp; rw [if_pos (by simpa using hbad)]
 subst hh
 rw [badOp_many] at hbad
 obtain ⟨m, hm⟩ : ∃ m, zdk op = m := ⟨_, rfl⟩
 rw [hm] at hbad
 have HMm := q_ hm
 clear hm
 generalize q1 : (m == -2) = x1 at hbad
 generalize q2 : decide (0 ≤ m) = x2 at hbad
 generalize q3 : ((eks.length : Int) != m) = x3 at hbad
 generalize q4 : (op == 20) = x4 at hbad
 generalize q5 : ((ens.length : Int) != (eks.length : Int)) = x5 at hbad
 cases x1 with
 | true =>
  clear hbad
  go_enter Tryz.func42, Tryz.ntmps42
  go_wp2_with fail
  refine HMa.out.mono ?_
  rintro e1 w1 ⟨rfl, rfl⟩
  rw [HMm.out]
  go_wp2_with ((with_reducible refine za4 ?_; refine zad rfl 27 _ _ rfl (w.heap.size + 2) 0 rfl zeroCells rfl zaa rfl 27 _ HZ0.out (by simp [zeroCells]) za2 ?_))
  first | exact bodyPost_ret (v := .tuple #[.agg (show List Value from zeroCells).toArray, .int .i64 1]) (zah Tryz.results42 rfl zae zaa rfl (zai HZ0.out (by simp [zeroCells]))) rfl (zbo (by decide) rfl ((HX0.out).setRow (by omega) _)) | exact bodyPost_ret (v := .tuple #[.agg (show List Value from zeroCells).toArray, .int .i64 1]) (zah Tryz.results42 rfl zae zaa rfl (zak HZ0.out)) rfl (zbo (by decide) rfl HX0.out)
 | false =>
 cases x2 with
 | true =>
  cases x3 with
  | true =>
   clear hbad
   go_enter Tryz.func42, Tryz.ntmps42
   go_wp2_with fail
   refine HMa.out.mono ?_
   rintro e1 w1 ⟨rfl, rfl⟩
   rw [HMm.out]
   go_wp2_with ((with_reducible refine za4 ?_; refine zad rfl 27 _ _ rfl (w.heap.size + 2) 0 rfl zeroCells rfl zaa rfl 27 _ HZ0.out (by simp [zeroCells]) za2 ?_))
   first | exact bodyPost_ret (v := .tuple #[.agg (show List Value from zeroCells).toArray, .int .i64 1]) (zah Tryz.results42 rfl zae zaa rfl (zai HZ0.out (by simp [zeroCells]))) rfl (zbo (by decide) rfl ((HX0.out).setRow (by omega) _)) | exact bodyPost_ret (v := .tuple #[.agg (show List Value from zeroCells).toArray, .int .i64 1]) (zah Tryz.results42 rfl zae zaa rfl (zak HZ0.out)) rfl (zbo (by decide) rfl HX0.out)
  | false =>
  cases x4 with
  | true =>
   cases x5 with
   | true =>
    clear hbad
    go_enter Tryz.func42, Tryz.ntmps42
    go_wp2_with fail
    refine HMa.out.mono ?_
    rintro e1 w1 ⟨rfl, rfl⟩
    rw [HMm.out]
    go_wp2_with ((with_reducible refine za4 ?_; refine zad rfl 27 _ _ rfl (w.heap.size + 2) 0 rfl zeroCells rfl zaa rfl 27 _ HZ0.out (by simp [zeroCells]) za2 ?_))
    first | exact bodyPost_ret (v := .tuple #[.agg (show List Value from zeroCells).toArray, .int .i64 1]) (zah Tryz.results42 rfl zae zaa rfl (zai HZ0.out (by simp [zeroCells]))) rfl (zbo (by decide) rfl ((HX0.out).setRow (by omega) _)) | exact bodyPost_ret (v := .tuple #[.agg (show List Value from zeroCells).toArray, .int .i64 1]) (zah Tryz.results42 rfl zae zaa rfl (zak HZ0.out)) rfl (zbo (by decide) rfl HX0.out)
   | false => simp at hbad
  | false => simp at hbad
 | false =>
  cases x4 with
  | true =>
   cases x5 with
   | true =>
    clear hbad
    go_enter Tryz.func42, Tryz.ntmps42
    go_wp2_with fail
    refine HMa.out.mono ?_
    rintro e1 w1 ⟨rfl, rfl⟩
    rw [HMm.out]
    go_wp2_with ((with_reducible refine za4 ?_; refine zad rfl 27 _ _ rfl (w.heap.size + 2) 0 rfl zeroCells rfl zaa rfl 27 _ HZ0.out (by simp [zeroCells]) za2 ?_))
    first | exact bodyPost_ret (v := .tuple #[.agg (show List Value from zeroCells).toArray, .int .i64 1]) (zah Tryz.results42 rfl zae zaa rfl (zai HZ0.out (by simp [zeroCells]))) rfl (zbo (by decide) rfl ((HX0.out).setRow (by omega) _)) | exact bodyPost_ret (v := .tuple #[.agg (show List Value from zeroCells).toArray, .int .i64 1]) (zah Tryz.results42 rfl zae zaa rfl (zak HZ0.out)) rfl (zbo (by decide) rfl HX0.out)
   | false => simp at hbad
  | false => simp at hbad
theorem evR_lit {A : Int → Prop} {S : Nat → Prop} {q : Req} {c : List Ent} {n : Nat} (ih : RefOf A S q c n) (ev : Val) (en : ByteArray) (eks : List Exp) (ens : List ByteArray) (hgood : zcu 1 eks.length ens.length = false) (w : World) (cs qc : List Value) (cv : Value) (hn : SizeOf.sizeOf (Exp.mk 1 ev en eks ens) ≤ n + 1) (hl : (Exp.mk 1 ev en eks ens).fine A) (hqd : q.ctx.dep ≤ 1000000) (hS : ∀ b, S b → b < w.heap.size) (he : Exp.At S w (Exp.mk 1 ev en eks ens) cs) (hq : Req.At S w q qc) (hen : EntsIn S w c cv) :
  Calls Tryz.prog 42 #[.agg cs.toArray, .agg qc.toArray, cv] w (RefAns S (evOp q c 1 ev en ens (eks.map (Exp.ev q c))) w) := by
 have HS := q_ hS
 have HQa := q_ hq
 have HEa := q_ he
 have HEn := q_ hen
 have HQd := q_ hqd
 have IH := q_ ih
 have HKn := q_ (show ∀ x ∈ eks, SizeOf.sizeOf x ≤ n from fun x hx => by have := Exp.kid_size (Exp.mk 1 ev en eks ens) hx; omega)
 have HKl := q_ ((Exp.fine_iff.1 hl).2.2)
 have HVd := q_ ((Exp.fine_iff.1 hl).2.1)
 obtain ⟨cA, cc, rfl, _⟩ := id hen.2.1
 obtain ⟨vk, vb, vn, vs, vt, vu, vA, vl, vc, vB, vm, vd, rfl, hqv⟩ := hq.shape
 obtain ⟨lk, lb, ln, ls, lt, lu, lA, ll, lc, lB, lm, ld, eK, ec, eN, ed, hcs, _, hev, hek, hens⟩ := Exp.At.shape he
 obtain rfl : cs = [.int .i64 1, .int .i64 lk, .bool lb, .int .i64 ln, .string ls, .string lt, .string lu, .slice lA ll lc, .slice lB lm ld, .string en, .slice eK eks.length ec, .slice eN ens.length ed] := hcs
 have hek : expR.RowsAt S w eks (.slice eK eks.length ec) := hek
 have hens : StrsAt S w ens (.slice eN ens.length ed) := hens
 have HEv : Hid (Val.At S w ev [.int .i64 lk, .bool lb, .int .i64 ln, .string ls, .string lt, .string lu, .slice lA ll lc, .slice lB lm ld]) := q_ hev
 have HNs := q_ hens
 obtain ⟨_, _, eq0, ⟨hk0, hk1, hk2⟩, hkr⟩ := hek
 injection eq0 with eq1 eq2 eq3
 subst eq1 eq3
 obtain ⟨_, _, eq0, hn0, hn1, hn2, _⟩ := id hens
 injection eq0 with eq1 eq4 eq3
 subst eq1 eq3
 rw [zaq] at hk0 hn0
 rw [zaj] at hk2 hn2
 have HK := q_ hkr
 obtain ⟨res, hres⟩ : ∃ r, evOp q c 1 ev en ens (eks.map (Exp.ev q c)) = r := ⟨_, rfl⟩
 rw [hres]
 have HR := q_ hres
 obtain ⟨p0, p1, p2, ps, px⟩ := zdn w (.cells #[.int .i64 1, .int .i64 lk, .bool lb, .int .i64 ln, .string ls, .string lt, .string lu, .slice lA ll lc, .slice lB lm ld, .string en, .slice eK eks.length ec, .slice eN ens.length ed] 30) (.cells #[.string q.pr.1, .string q.pr.2, .string q.act.1, .string q.act.2, .string q.res.1, .string q.res.2, .int .i64 vk, .bool vb, .int .i64 vn, .string vs, .string vt, .string vu, .slice vA vl vc, .slice vB vm vd] 34) (.cells zeroCells.toArray 27)
 have HE0 := q_ p0
 have HQ0 := q_ p1
 have HZ0 := q_ p2
 have HX0 := q_ px
 clear p0 p1 p2 ps px
 have HMa := q_ (manyR_ok 1 (((w.alloc (.cells #[.int .i64 1, .int .i64 lk, .bool lb, .int .i64 ln, .string ls, .string lt, .string lu, .slice lA ll lc, .slice lB lm ld, .string en, .slice eK eks.length ec, .slice eN ens.length ed] 30)).alloc (.cells #[.string q.pr.1, .string q.pr.2, .string q.act.1, .string q.act.2, .string q.res.1, .string q.res.2, .int .i64 vk, .bool vb, .int .i64 vn, .string vs, .string vt, .string vu, .slice vA vl vc, .slice vB vm vd] 34)).alloc (.cells zeroCells.toArray 27)))
 clear eq2 eq4 hkr hn hl hqd hS he hq hqv hen hev hens hres ih
 have hlen : eks.length = 0 := by simp [zcu, zb3] at hgood; simpa using hgood
 have q3 : ((eks.length : Int) != 0) = false := by simp [hlen]
 have hR : res = ev.canon := by rw [← HR.out]; unfold evOp; rw [if_neg (by simpa using hgood)]; rfl
 have hc := canon_okR ev S (((w.alloc (.cells #[.int .i64 1, .int .i64 lk, .bool lb, .int .i64 ln, .string ls, .string lt, .string lu, .slice lA ll lc, .slice lB lm ld, .string en, .slice eK eks.length ec, .slice eN ens.length ed] 30)).alloc (.cells #[.string q.pr.1, .string q.pr.2, .string q.act.1, .string q.act.2, .string q.res.1, .string q.res.2, .int .i64 vk, .bool vb, .int .i64 vn, .string vs, .string vt, .string vu, .slice vA vl vc, .slice vB vm vd] 34)).alloc (.cells zeroCells.toArray 27)) [.int .i64 lk, .bool lb, .int .i64 ln, .string ls, .string lt, .string lu, .slice lA ll lc, .slice lB lm ld] HVd.out (fun b hb => Nat.lt_of_lt_of_le (HS.out b hb) HX0.out.size) (Val.At.alike (Alike.of_ext HX0.out HS.out) _ _ HEv.out)
 rw [← hR] at hc
 have HC := q_ hc
 have HCv : Hid (CellsAt (((w.alloc (.cells #[.int .i64 1, .int .i64 lk, .bool lb, .int .i64 ln, .string ls, .string lt, .string lu, .slice lA ll lc, .slice lB lm ld, .string en, .slice eK eks.length ec, .slice eN ens.length ed] 30)).alloc (.cells #[.string q.pr.1, .string q.pr.2, .string q.act.1, .string q.act.2, .string q.res.1, .string q.res.2, .int .i64 vk, .bool vb, .int .i64 vn, .string vs, .string vt, .string vu, .slice vA vl vc, .slice vB vm vd] 34)).alloc (.cells zeroCells.toArray 27)) w.heap.size 1 [.int .i64 lk, .bool lb, .int .i64 ln, .string ls, .string lt, .string lu, .slice lA ll lc, .slice lB lm ld]) := q_ (zcd (pre := [.int .i64 1]) (cs := [.int .i64 lk, .bool lb, .int .i64 ln, .string ls, .string lt, .string lu, .slice lA ll lc, .slice lB lm ld]) (r := [.string en, .slice eK eks.length ec, .slice eN ens.length ed]) HE0.out)
 clear hgood hlen hR hc
 go_enter Tryz.func42, Tryz.ntmps42
 go_wp2_with fail
 refine HMa.out.mono ?_
 rintro e1 w1 ⟨rfl, rfl⟩
 rw [show zdk 1 = 0 from rfl]
 go_wp2_with (first | (with_reducible refine zaw ?_; refine zab rfl 27 _ rfl w.heap.size 1 rfl zae zaa (cs := [.int .i64 lk, .bool lb, .int .i64 ln, .string ls, .string lt, .string lu, .slice lA ll lc, .slice lB lm ld]) rfl HCv.out ?_))
 refine HC.out.mono ?_
 rintro e9 w9 ⟨cs9, rfl, hv9, hx9⟩
 obtain ⟨z, ez⟩ := res
 obtain ⟨zk, zb, zn, zs, zt, zu, zi, zm⟩ := z
 obtain ⟨zA, zc, zB, zd, rfl⟩ := hv9.opened
 have HZ9 := q_ ((hx9.block _ (zaf HZ0.out)).trans HZ0.out)
 have HX9 := q_ (HX0.out.trans hx9)
 have HV9 := q_ (Val.At.mono (fun b hb => (Or.inr hb : S b ∨ Fresh _ w9 b)) _ _ hv9)
 clear hx9 hv9
 go_wp2_with ((with_reducible refine za4 ?_; refine zad rfl 27 _ _ rfl (w.heap.size + 2) 0 rfl [.int .i64 zk, .bool zb, .int .i64 zn, .string zs, .string zt, .string zu, .slice zA zi.length zc, .slice zB zm.length zd] rfl zaa rfl 27 _ HZ9.out (by simp [zeroCells]) HV9.out.one ?_))
 exact bodyPost_ret (v := .tuple #[.agg (show List Value from [.int .i64 zk, .bool zb, .int .i64 zn, .string zs, .string zt, .string zu, .slice zA zi.length zc, .slice zB zm.length zd]).toArray, .int .i64 ez]) (zah Tryz.results42 rfl zae zaa rfl (zai HZ9.out (by simp [zeroCells]))) rfl ⟨_, _, rfl, fun _ => rfl, zone_row HV9.out HS.out (by omega) HX9.out _ (by have := zaf HZ0.out; simp at this ⊢ <;> omega), HX9.out.setRow (by omega) _⟩
end Go.Proofs.YtebfoimbdljbmaaGreatDoor

/-
  The document's answer for layer 14: what an expression comes to whose kids are all asked. The conditions: what is handed in lies in memory as it should; the entities are as they must be; smaller expressions come to what they should.
-/
namespace Go.Proofs.YtebfoimbdljbmaaGreatDoor
open Go.RowKit
open Lib renaming hid → q_
set_option maxRecDepth 100000
set_option maxHeartbeats 4000000
theorem ev_err {q : Req} {c : List Ent} {op : Int} {ev : Val} {en : ByteArray} {ens : List ByteArray} {eks : List Exp} {j : Nat} {x : Exp} {er : Int} (hg : zcu op eks.length ens.length = false) (h1 : op ≠ 1) (h2 : op ≠ 2) (h3 : op ≠ 3) (h4 : op ≠ 4) (h5 : op ≠ 5) (h7 : op ≠ 7)
  (hx : eks[j]? = some x) (he : (x.ev q c).2 = er) (h0 : er ≠ 0) (hall : ∀ i y, i < j → eks[i]? = some y → (y.ev q c).2 = 0) : evOp q c op ev en ens (eks.map (Exp.ev q c)) = no er := by
 have hb := allV_bad (l := eks.map (Exp.ev q c)) (i := j) (r := x.ev q c) (by simp [hx]) (by rw [he]; exact h0) fun i r hi hr => by
  rw [List.getElem?_map] at hr
  cases hy : eks[i]? with
  | none => rw [hy] at hr; cases hr
  | some y => rw [hy] at hr; obtain rfl := Option.some.inj hr; exact hall i y hi hy
 rw [he] at hb
 unfold evOp
 rw [if_neg (by simpa using hg), if_neg h1, if_neg h2, if_neg h3, if_neg (by omega), hb, if_pos h0]
theorem ev_all {q : Req} {c : List Ent} {eks : List Exp} {l : List Val} (hl : l.length = eks.length) (hall : ∀ i x, i < eks.length → eks[i]? = some x → (x.ev q c).2 = 0 ∧ l[i]? = some (x.ev q c).1) : zda (eks.map (Exp.ev q c)) = (l, 0) := by
 have h := allV_good (l := eks.map (Exp.ev q c)) fun r hr => by
  obtain ⟨x, hx, rfl⟩ := List.mem_map.1 hr
  obtain ⟨i, hi, rfl⟩ := List.getElem_of_mem hx
  exact (hall i _ hi (List.getElem?_eq_getElem hi)).1
 rw [h]
 congr 1
 apply List.ext_getElem?
 intro i
 rw [List.map_map, List.getElem?_map]
 cases hx : eks[i]? with
 | none => rw [List.getElem?_eq_none (by have := List.getElem?_eq_none_iff.1 hx; omega)]; rfl
 | some x => rw [(hall i x (List.getElem?_eq_some_iff.1 hx).1 hx).2]; rfl
theorem Tryz.undVs : Tryz.prog.underlying 24 = some (.slice (Tryz.prog.elem 24)) := by kernel_rfl
theorem Tryz.sizVs : ∀ w, (Go.sizeOf (Tryz.prog.elem 24)).run Tryz.prog w = .ok 8 w := fun _ => by kernel_rfl
theorem list8r {α : Type} {l : List α} (h : l.length = 8) : ∃ a0 a1 a2 a3 a4 a5 a6 a7, l = [a0, a1, a2, a3, a4, a5, a6, a7] := by
 match l, h with
 | [a, b, c, d, e, f, g, i], _ => exact ⟨a, b, c, d, e, f, g, i, rfl⟩
theorem EntsIn.mono {S T : Nat → Prop} {w : World} {c : List Ent} {v : Value} (h : EntsIn S w c v) (hT : ∀ b, T b → b < w.heap.size) (k : ∀ b, S b → T b) : EntsIn T w c v := ⟨hT, h.2.1.mono k, h.2.2⟩
theorem evR_one {A : Int → Prop} {S : Nat → Prop} {q : Req} {c : List Ent} {n : Nat} (ih : RefOf A S q c n) (op : Int) (ev : Val) (en : ByteArray) (eks : List Exp) (ens : List ByteArray) (hgood : zcu op eks.length ens.length = false) (har : zb3 op = 1) (hdo : OneR c op en) (w : World) (cs qc : List Value) (cv : Value) (hn : SizeOf.sizeOf (Exp.mk op ev en eks ens) ≤ n + 1) (hl : (Exp.mk op ev en eks ens).fine A) (hqd : q.ctx.dep ≤ 1000000) (hS : ∀ b, S b → b < w.heap.size) (he : Exp.At S w (Exp.mk op ev en eks ens) cs) (hq : Req.At S w q qc) (hen : EntsIn S w c cv) :
  Calls Tryz.prog 42 #[.agg cs.toArray, .agg qc.toArray, cv] w (RefAns S (evOp q c op ev en ens (eks.map (Exp.ev q c))) w) := by
 have HS := q_ hS
 have HQa := q_ hq
 have HEa := q_ he
 have HEn := q_ hen
 have HQd := q_ hqd
 have IH := q_ ih
 have HKn := q_ (show ∀ x ∈ eks, SizeOf.sizeOf x ≤ n from fun x hx => by have := Exp.kid_size (Exp.mk op ev en eks ens) hx; omega)
 have HKl := q_ ((Exp.fine_iff.1 hl).2.2)
 have HVd := q_ ((Exp.fine_iff.1 hl).2.1)
 obtain ⟨cA, cc, rfl, _⟩ := id hen.2.1
 obtain ⟨vk, vb, vn, vs, vt, vu, vA, vl, vc, vB, vm, vd, rfl, hqv⟩ := hq.shape
 obtain ⟨lk, lb, ln, ls, lt, lu, lA, ll, lc, lB, lm, ld, eK, ec, eN, ed, hcs, _, hev, hek, hens⟩ := Exp.At.shape he
 obtain rfl : cs = [.int .i64 op, .int .i64 lk, .bool lb, .int .i64 ln, .string ls, .string lt, .string lu, .slice lA ll lc, .slice lB lm ld, .string en, .slice eK eks.length ec, .slice eN ens.length ed] := hcs
 have hek : expR.RowsAt S w eks (.slice eK eks.length ec) := hek
 have hens : StrsAt S w ens (.slice eN ens.length ed) := hens
 have HEv : Hid (Val.At S w ev [.int .i64 lk, .bool lb, .int .i64 ln, .string ls, .string lt, .string lu, .slice lA ll lc, .slice lB lm ld]) := q_ hev
 have HNs := q_ hens
 obtain ⟨_, _, eq0, ⟨hk0, hk1, hk2⟩, hkr⟩ := hek
 injection eq0 with eq1 eq2 eq3
 subst eq1 eq3
 obtain ⟨_, _, eq0, hn0, hn1, hn2, _⟩ := id hens
 injection eq0 with eq1 eq4 eq3
 subst eq1 eq3
 rw [zaq] at hk0 hn0
 rw [zaj] at hk2 hn2
 have HK := q_ hkr
 obtain ⟨res, hres⟩ : ∃ r, evOp q c op ev en ens (eks.map (Exp.ev q c)) = r := ⟨_, rfl⟩
 rw [hres]
 have HR := q_ hres
 obtain ⟨p0, p1, p2, ps, px⟩ := zdn w (.cells #[.int .i64 op, .int .i64 lk, .bool lb, .int .i64 ln, .string ls, .string lt, .string lu, .slice lA ll lc, .slice lB lm ld, .string en, .slice eK eks.length ec, .slice eN ens.length ed] 30) (.cells #[.string q.pr.1, .string q.pr.2, .string q.act.1, .string q.act.2, .string q.res.1, .string q.res.2, .int .i64 vk, .bool vb, .int .i64 vn, .string vs, .string vt, .string vu, .slice vA vl vc, .slice vB vm vd] 34) (.cells zeroCells.toArray 27)
 have HE0 := q_ p0
 have HQ0 := q_ p1
 have HZ0 := q_ p2
 have HX0 := q_ px
 clear p0 p1 p2 ps px
 have HMa := q_ (manyR_ok op (((w.alloc (.cells #[.int .i64 op, .int .i64 lk, .bool lb, .int .i64 ln, .string ls, .string lt, .string lu, .slice lA ll lc, .slice lB lm ld, .string en, .slice eK eks.length ec, .slice eN ens.length ed] 30)).alloc (.cells #[.string q.pr.1, .string q.pr.2, .string q.act.1, .string q.act.2, .string q.res.1, .string q.res.2, .int .i64 vk, .bool vb, .int .i64 vn, .string vs, .string vt, .string vu, .slice vA vl vc, .slice vB vm vd] 34)).alloc (.cells zeroCells.toArray 27)))
 clear eq2 eq4 hkr hn hl hqd hS he hq hqv hen hev hens hres ih
 have Hdo := q_ hdo
 clear hdo
 have g1 : op ≠ 1 := fun h => by subst h; exact absurd har (by decide)
 have g2 : op ≠ 2 := fun h => by subst h; exact absurd har (by decide)
 have g3 : op ≠ 3 := fun h => by subst h; exact absurd har (by decide)
 have g4 : op ≠ 4 := fun h => by subst h; exact absurd har (by decide)
 have g5 : op ≠ 5 := fun h => by subst h; exact absurd har (by decide)
 have g7 : op ≠ 7 := fun h => by subst h; exact absurd har (by decide)
 have g19 : op ≠ 19 := fun h => by subst h; exact absurd har (by decide)
 have g20 : op ≠ 20 := fun h => by subst h; exact absurd har (by decide)
 have t1 : (op == 1) = false := by simpa using g1
 have t2 : (op == 2) = false := by simpa using g2
 have t3 : (op == 3) = false := by simpa using g3
 have t4 : (op == 4) = false := by simpa using g4
 have t5 : (op == 5) = false := by simpa using g5
 have t7 : (op == 7) = false := by simpa using g7
 have t19 : (op == 19) = false := by simpa using g19
 have t20 : (op == 20) = false := by simpa using g20
 have hm1 : zdk op = 1 := by unfold zdk; rw [har]; rfl
 have hlen : eks.length = 1 := by rw [badOp_many, hm1] at hgood; simp at hgood; omega
 have q3 : ((eks.length : Int) != 1) = false := by simp [hlen]
 have HLen := q_ hlen
 have HMm := q_ hm1
 have HGd := q_ hgood
 have HN1 := q_ (show op ≠ 1 ∧ op ≠ 2 ∧ op ≠ 3 ∧ op ≠ 4 ∧ op ≠ 5 ∧ op ≠ 7 from ⟨g1, g2, g3, g4, g5, g7⟩)
 have HN2 := q_ (show op ≠ 19 ∧ op ≠ 20 from ⟨g19, g20⟩)
 clear hgood hm1 har hlen g1 g2 g3 g4 g5 g7 g19 g20
 go_enter Tryz.func42, Tryz.ntmps42
 go_wp2_with fail
 refine HMa.out.mono ?_
 rintro e1 w1 ⟨rfl, rfl⟩
 rw [HMm.out]
 go_wp2_with fail
 go_loopw [9, 10] (fun k' i' wr => ∃ (j : Nat) (l : List Val), j ≤ eks.length ∧ i' = .int .i64 j ∧ Hid (l.length = j) ∧ Hid (OwnL (valS (fun b => S b ∨ w.heap.size + 3 ≤ b)) 27 (w.heap.size + 3) wr k' l) ∧ Hid (∀ i x, i < j → eks[i]? = some x → (x.ev q c).2 = 0 ∧ l[i]? = some (x.ev q c).1) ∧ Hid (wr.heap[w.heap.size]? = some (.cells #[.int .i64 op, .int .i64 lk, .bool lb, .int .i64 ln, .string ls, .string lt, .string lu, .slice lA ll lc, .slice lB lm ld, .string en, .slice eK eks.length ec, .slice eN ens.length ed] 30 (0, 0))) ∧ Hid (wr.heap[w.heap.size + 1]? = some (.cells #[.string q.pr.1, .string q.pr.2, .string q.act.1, .string q.act.2, .string q.res.1, .string q.res.2, .int .i64 vk, .bool vb, .int .i64 vn, .string vs, .string vt, .string vu, .slice vA vl vc, .slice vB vm vd] 34 (0, 0))) ∧ Hid (wr.heap[w.heap.size + 2]? = some (.cells zeroCells.toArray 27 (0, 0))) ∧ Hid (Ext w wr) ∧ Hid (w.heap.size + 3 ≤ wr.heap.size)) (fun _ i' _ => eks.length - (intOf i').toNat)
 case atStart => exact ⟨0, [], Nat.zero_le _, rfl, q_ rfl, q_ OwnL.nil, q_ (fun i x hi => by omega), HE0, HQ0, HZ0, HX0, q_ (by simp)⟩
 case round =>
  clear HE0 HQ0 HZ0 HX0
  obtain ⟨j, l, hj, rfl, HLl, HOw, HAll, HE, HQ, HZ, HX, HLo⟩ := hrel
  obtain ⟨A', c', hsh⟩ := HOw.out.shape
  subst hsh
  have c10 : wr.cell? ⟨w.heap.size, 10, none⟩ = some (.slice eK eks.length ec) := cell_of_row _ _ 10 _ _ _ HE.out
  by_cases hlt : j < eks.length
  ·obtain ⟨b, o, eB, hSb, hrw⟩ := HK.out (by omega)
   cases eB
   obtain ⟨x, hx⟩ : ∃ x, eks[j]? = some x := ⟨_, List.getElem?_eq_getElem hlt⟩
   obtain ⟨cx, hcx, hxa⟩ := hrw j x hx
   have hcx : CellsAt w b (o + j * 12) cx := hcx
   have hxa : Exp.At S w x cx := hxa
   have Hcx := q_ hcx
   have Hxa := q_ hxa
   have HSb := q_ hSb
   have HIl := q_ hlt
   have HXx := q_ hx
   have HXm := q_ (List.mem_of_getElem? hx)
   have HE : Hid (wr.heap[w.heap.size]? = some (.cells #[.int .i64 op, .int .i64 lk, .bool lb, .int .i64 ln, .string ls, .string lt, .string lu, .slice lA ll lc, .slice lB lm ld, .string en, .slice (some ⟨b, o, none⟩) eks.length ec, .slice eN ens.length ed] 30 (0, 0))) := HE
   have c0 : wr.cell? ⟨w.heap.size, 0, none⟩ = some (.int .i64 op) := cell_of_row _ _ 0 _ _ _ HE.out
   have c10 : wr.cell? ⟨w.heap.size, 10, none⟩ = some (.slice (some ⟨b, o, none⟩) eks.length ec) := cell_of_row _ _ 10 _ _ _ HE.out
   clear hcx hxa hrw hSb hx
   obtain ⟨i0, hi0, hz0, hz1, hz2⟩ := info_parts zdd
   by_cases hj0 : 0 < j
   all_goals
    go_wp2_with fail
    refine region_ask S wr.heap.size 7 14 115 107 116 117 11 rfl [.pointer (some ⟨w.heap.size, 10, none⟩), .slice (some ⟨b, o, none⟩) eks.length ec, .int .i64 j, .pointer (some ⟨b, o + j * 12, none⟩), .agg cx.toArray, .agg ([.string q.pr.1, .string q.pr.2, .string q.act.1, .string q.act.2, .string q.res.1, .string q.res.2, .int .i64 vk, .bool vb, .int .i64 vn, .string vs, .string vt, .string vu, .slice vA vl vc, .slice vB vm vd] : List Value).toArray, .slice cA c.length cc] (x.ev q c) (by kernel_rfl) (by kernel_rfl) (by kernel_rfl) (fun b hb => Nat.lt_of_lt_of_le (HS.out b hb) HX.out.size) (Nat.le_refl _) ⟨_, _, _, _, _, _, _, rfl, rfl, rfl, rfl, rfl, rfl, rfl, rfl, rfl, rfl, rfl, rfl, rfl⟩ ⟨by kernel_rfl, by kernel_rfl, by kernel_rfl, by kernel_rfl, by kernel_rfl⟩ ⟨by kernel_rfl, by kernel_rfl, by kernel_rfl, by kernel_rfl, by kernel_rfl, by kernel_rfl⟩ (fun p op' hp' ho W act hx hold hf => ?_) (fun op' ho W act hx hold hf => ?_) (fun xs W z zs g hl hx hkn hp hge hgc hz hat he2 => ?_)
    ·rcases (by omega : p = 0 ∨ p = 1 ∨ p = 2 ∨ p = 3 ∨ p = 4 ∨ p = 5 ∨ p = 6) with rfl | rfl | rfl | rfl | rfl | rfl | rfl <;> obtain rfl := Option.some.inj ho
     ·exact za8 30 _ 3 rfl (hold 3 (by kernel_rfl)) (Tryz.fieldEx3 w.heap.size)
     ·exact za9 28 _ rfl w.heap.size 10 (hf 0 108 (by omega) (by kernel_rfl) (by kernel_rfl)) Tryz.aggXs (cell_of_row _ _ 10 _ _ _ ((hx.block _ (zaf HE.out)).trans HE.out))
     ·exact zbd rfl (hold 10 (by kernel_rfl))
     ·exact zc0 rfl (hf 1 109 (by omega) (by kernel_rfl) (by kernel_rfl)) (hf 2 110 (by omega) (by kernel_rfl) (by kernel_rfl)) Tryz.undXs Tryz.sizXs HIl.out
     ·exact zat 30 _ rfl b (o + j * 12) (hf 3 111 (by omega) (by kernel_rfl) (by kernel_rfl)) zar zao Hxa.out.length (Hcx.out.alike HSb.out (Alike.of_ext (HX.out.trans hx) HS.out))
     ·exact zat 34 _ rfl (w.heap.size + 1) 0 (hold 4 (by kernel_rfl)) Tryz.aggQ Tryz.sizeQ (cs := [.string q.pr.1, .string q.pr.2, .string q.act.1, .string q.act.2, .string q.res.1, .string q.res.2, .int .i64 vk, .bool vb, .int .i64 vn, .string vs, .string vt, .string vu, .slice vA vl vc, .slice vB vm vd]) rfl (zak ((hx.block _ (zaf HQ.out)).trans HQ.out))
     ·exact zbd rfl (hold 2 (by kernel_rfl))
    ·obtain rfl := Option.some.inj ho
     exact ⟨_, _, zco Tryz.func42 rfl rfl rfl (map_three (hf 4 112 (by omega) (by kernel_rfl) (by kernel_rfl)) (hf 5 113 (by omega) (by kernel_rfl) (by kernel_rfl)) (hf 6 114 (by omega) (by kernel_rfl) (by kernel_rfl))), IH.out x W cx [.string q.pr.1, .string q.pr.2, .string q.act.1, .string q.act.2, .string q.res.1, .string q.res.2, .int .i64 vk, .bool vb, .int .i64 vn, .string vs, .string vt, .string vu, .slice vA vl vc, .slice vB vm vd] (.slice cA c.length cc) (HKn.out x HXm.out) (HKl.out x HXm.out) HQd.out (fun b hb => Nat.lt_of_lt_of_le (HS.out b hb) (HX.out.trans hx).size) (Exp.At.alike (Alike.of_ext (HX.out.trans hx) HS.out) _ _ Hxa.out) (HQa.out.alike (Alike.of_ext (HX.out.trans hx) HS.out)) (HEn.out.ext (HX.out.trans hx))⟩
    ·obtain ⟨x0, x1, x2, x3, x4, x5, x6, x7, x8, x9, x10, x11, x12, x13, rfl⟩ := list14r hl
     have hp : x11 = .pointer (some ⟨g, 0, none⟩) := hp
     have he2 : x13 = .int .i64 (x.ev q c).2 := he2
     subst hp he2
     obtain ⟨zk, zb, zn, zs, zt, zu, zi, zm⟩ := z
     obtain ⟨zA, zc, zB, zd, rfl⟩ := hat.opened
     have HEw := q_ ((hx.block _ (zaf HE.out)).trans HE.out)
     have HQw := q_ ((hx.block _ (zaf HQ.out)).trans HQ.out)
     have HZw := q_ ((hx.block _ (zaf HZ.out)).trans HZ.out)
     have HXw := q_ (HX.out.trans hx)
     have HOw2 := q_ (HOw.out.ext hx)
     have HLo2 : Hid (w.heap.size + 3 ≤ W.heap.size) := q_ (Nat.le_trans HLo.out hx.size)
     have HV := q_ (Val.At.mono (fun b (hb : (S b ∨ Fresh wr.heap.size W b) ∧ b ≠ g) => hb.1) _ _ hat)
     have HVz : Hid ((valS (fun b => S b ∨ w.heap.size + 3 ≤ b)).At (fun b => b < W.heap.size ∧ (Value.slice A' l.length c').ownBlock ≠ some b) W (Val.mk zk zb zn zs zt zu zi zm) [.int .i64 zk, .bool zb, .int .i64 zn, .string zs, .string zt, .string zu, .slice zA zi.length zc, .slice zB zm.length zd]) := q_ (Val.At.mono (fun b (hb : S b ∨ Fresh wr.heap.size W b) => by
      have h3 := HLo.out
      rcases hb with hb | hb
      ·have h1 := HS.out b hb
       have h2 := HXw.out.size
       exact ⟨⟨by omega, fun e => by have := (HOw.out.lt b e).1; omega⟩, Or.inl hb⟩
      ·exact ⟨⟨hb.2, fun e => by have := (HOw.out.lt b e).2; have := hb.1; omega⟩, Or.inr (by have := hb.1; omega)⟩) _ _ HV.out)
     have HG := q_ hgc
     have Hz := q_ hz
     obtain ⟨er, her⟩ : ∃ e, (x.ev q c).2 = e := ⟨_, rfl⟩
     have HEr := q_ her
     rw [her]
     clear hat hz hx hkn hl hge hgc her
     simp only [List.take, List.drop, za0, Act.put, List.setIfInBounds_toArray, List.set_cons_zero, List.set_cons_succ]
     by_cases h0 : er = 0
     ·have Hz1 := q_ (Hz.out (HEr.out.trans h0))
      subst h0
      go_wp2_with (first | (with_reducible refine zaw ?_; refine zab rfl 27 _ rfl g 0 rfl zae zaa (cs := [.int .i64 zk, .bool zb, .int .i64 zn, .string zs, .string zt, .string zu, .slice zA zi.length zc, .slice zB zm.length zd]) rfl (zak HG.out) ?_) | (at_builtin; refine zck rfl (.tmp 122) (.tmp 124) 24 rfl (valS (fun b => S b ∨ w.heap.size + 3 ≤ b)) (w.heap.size + 3) 27 i0 _ 120 Tryz.underlying24 hi0 hz0 hz1 hz2 rfl (.slice A' l.length c') l W 27 (Val.mk zk zb zn zs zt zu zi zm) [.int .i64 zk, .bool zb, .int .i64 zn, .string zs, .string zt, .string zu, .slice zA zi.length zc, .slice zB zm.length zd] rfl rfl HOw2.out HVz.out (by rw [HLl.out, zaj]; omega) (by rw [HLl.out]; omega) HLo2.out ?_))
      intro v' w5 ho5 hg5
      have HO5 := q_ ho5
      have HX5 := q_ (zav HXw.out hg5 fun b e => by have := (HOw2.out.lt b e).1; omega)
      have HE5 := q_ ((hg5.block _ (zaf HEw.out) (fun e => by have := (HOw2.out.lt _ e.symm).1; omega)).trans HEw.out)
      have HQ5 := q_ ((hg5.block _ (zaf HQw.out) (fun e => by have := (HOw2.out.lt _ e.symm).1; omega)).trans HQw.out)
      have HZ5 := q_ ((hg5.block _ (zaf HZw.out) (fun e => by have := (HOw2.out.lt _ e.symm).1; omega)).trans HZw.out)
      have HLo5 : Hid (w.heap.size + 3 ≤ w5.heap.size) := q_ (Nat.le_trans HLo2.out hg5.size)
      clear ho5 hg5
      go_wp2_with fail
      go_roundw
      case rel => exact ⟨j + 1, l ++ [Val.mk zk zb zn zs zt zu zi zm], by omega, by go_num, q_ (by rw [List.length_append, HLl.out]; rfl), HO5, q_ (fun i y hi hy => by
       by_cases hij : i = j
       ·subst hij
        rw [HXx.out] at hy; cases hy
        exact ⟨HEr.out, by rw [List.getElem?_append_right (by rw [HLl.out]; exact Nat.le_refl _), HLl.out, Nat.sub_self]; rw [← Hz1.out]; rfl⟩
       ·obtain ⟨h1, h2⟩ := HAll.out i y (by omega) hy
        exact ⟨h1, by rw [List.getElem?_append_left (by rw [HLl.out]; omega)]; exact h2⟩), HE5, HQ5, HZ5, HX5, HLo5⟩
      case measure => simp [intOf]; omega
     ·have t0 : (er != 0) = true := by simpa using h0
      have hh : res = no er := by
       rw [← HR.out]
       exact ev_err HGd.out HN1.out.1 HN1.out.2.1 HN1.out.2.2.1 HN1.out.2.2.2.1 HN1.out.2.2.2.2.1 HN1.out.2.2.2.2.2 HXx.out HEr.out h0 fun i y hi hy => (HAll.out i y hi hy).1
      subst hh
      have H0 := q_ h0
      clear h0
      go_wp2_with (first | (with_reducible refine zaw ?_; refine zab rfl 27 _ rfl g 0 rfl zae zaa (cs := [.int .i64 zk, .bool zb, .int .i64 zn, .string zs, .string zt, .string zu, .slice zA zi.length zc, .slice zB zm.length zd]) rfl (zak HG.out) ?_) | (with_reducible refine za4 ?_; refine zad rfl 27 _ _ rfl (w.heap.size + 2) 0 rfl [.int .i64 zk, .bool zb, .int .i64 zn, .string zs, .string zt, .string zu, .slice zA zi.length zc, .slice zB zm.length zd] rfl zaa rfl 27 _ HZw.out (by simp [zeroCells]) HV.out.one ?_))
      exact bodyPost_ret (v := .tuple #[.agg (show List Value from [.int .i64 zk, .bool zb, .int .i64 zn, .string zs, .string zt, .string zu, .slice zA zi.length zc, .slice zB zm.length zd]).toArray, .int .i64 er]) (zah Tryz.results42 rfl zae zaa rfl (zai HZw.out (by simp [zeroCells]))) rfl ⟨_, _, rfl, fun h => absurd h H0.out, zone_row HV.out HS.out (by omega) HXw.out _ (by have := HLo.out; omega), HXw.out.setRow (by omega) _⟩
  ·have hje : j = eks.length := by omega
   subst hje
   have HV := q_ (ev_all HLl.out fun i x hi hx => HAll.out i x hi hx)
   have c0 : wr.cell? ⟨w.heap.size, 0, none⟩ = some (.int .i64 op) := cell_of_row _ _ 0 _ _ _ HE.out
   obtain ⟨x, hz⟩ : ∃ x, l = [x] := List.length_eq_one_iff.1 (by rw [HLl.out, HLen.out])
   have hh : res = oneV c op en x := by rw [← HR.out]; unfold evOp; rw [if_neg (by simpa using HGd.out), if_neg HN1.out.1, if_neg HN1.out.2.1, if_neg HN1.out.2.2.1, if_neg (by have := HN1.out.2.2.2; omega), HV.out, if_neg (by simp), if_neg HN2.out.1, if_neg HN2.out.2, hz]
   obtain ⟨b0, o0, cx, eA0, hcx, hax⟩ := OwnL.at' HOw.out (by rw [HLl.out, HLen.out, zaq]; omega) (i := 0) (x := x) (by rw [hz]; rfl)
   have hcx : CellsAt wr b0 (o0 + 0 * 8) cx := hcx
   subst eA0
   have HCx := q_ hcx
   have HAx : Hid (Val.At (fun b => b < wr.heap.size ∧ (S b ∨ w.heap.size + 3 ≤ b)) wr x cx) := q_ hax
   clear hcx hax
   have T1 : ((l.length : Int) == 1) = true := by rw [hz]; rfl
   have HL0 : Hid (0 < l.length) := q_ (by rw [hz]; exact Nat.one_pos)
   have HH := q_ hh
   clear hz hh
   go_wp2_with fail
   refine region_told (fun b => b < wr.heap.size ∧ (S b ∨ w.heap.size + 3 ≤ b)) wr.heap.size 5 8 181 rfl [.agg ([.int .i64 op, .int .i64 lk, .bool lb, .int .i64 ln, .string ls, .string lt, .string lu, .slice lA ll lc, .slice lB lm ld, .string en, .slice eK eks.length ec, .slice eN ens.length ed] : List Value).toArray, .slice (some ⟨b0, o0, none⟩) l.length c', .pointer (some ⟨b0, o0 + 0 * 8, none⟩), .agg cx.toArray, .slice cA c.length cc] res (by kernel_rfl) (by kernel_rfl) (by kernel_rfl) (by kernel_rfl) (fun b hb => hb.1) (Nat.le_refl _) ⟨_, _, _, rfl, rfl, rfl, rfl, rfl⟩ (by kernel_rfl) ⟨by kernel_rfl, by kernel_rfl⟩ (fun p op' hp' ho W act hx hold hf => ?_) (fun op' ho W act hx hold hf => ?_) (fun xs W z zs hl hx hkn he1 hz hat he2 => ?_)
   ·rcases (by omega : p = 0 ∨ p = 1 ∨ p = 2 ∨ p = 3 ∨ p = 4) with rfl | rfl | rfl | rfl | rfl <;> obtain rfl := Option.some.inj ho
    ·exact zat 30 _ rfl w.heap.size 0 (hold 3 (by kernel_rfl)) zar zao (cs := [.int .i64 op, .int .i64 lk, .bool lb, .int .i64 ln, .string ls, .string lt, .string lu, .slice lA ll lc, .slice lB lm ld, .string en, .slice eK eks.length ec, .slice eN ens.length ed]) rfl (zak ((hx.block _ (zaf HE.out)).trans HE.out))
    ·exact zbd rfl (hold 9 (by kernel_rfl))
    ·exact zc0 rfl (hf 1 177 (by omega) (by kernel_rfl) (by kernel_rfl)) (show _ = Value.int .i64 ((0 : Nat) : Int) from rfl) Tryz.undVs Tryz.sizVs HL0.out
    ·exact zat 27 _ rfl b0 (o0 + 0 * 8) (hf 2 178 (by omega) (by kernel_rfl) (by kernel_rfl)) zae zaa HAx.out.length (HCx.out.alike (S := fun b => b < wr.heap.size) (HOw.out.lt b0 rfl).2 (Alike.of_ext hx fun b hb => hb))
    ·exact zbd rfl (hold 2 (by kernel_rfl))
   ·obtain rfl := Option.some.inj ho
    rw [HH.out]
    exact ⟨_, _, zco Tryz.func79 rfl rfl rfl (map_three (hf 0 176 (by omega) (by kernel_rfl) (by kernel_rfl)) (hf 3 179 (by omega) (by kernel_rfl) (by kernel_rfl)) (hf 4 180 (by omega) (by kernel_rfl) (by kernel_rfl))), Hdo.out (fun b => b < wr.heap.size ∧ (S b ∨ w.heap.size + 3 ≤ b)) (.slice cA c.length cc) x lk lb ln ls lt lu lA ll lc lB lm ld eK eks.length ec eN ens.length ed W cx (fun b hb => Nat.lt_of_lt_of_le hb.1 hx.size) (Val.At.alike (Alike.of_ext hx fun b hb => hb.1) _ _ HAx.out) (((HEn.out.ext HX.out).mono (fun b hb => hb.1) (fun b hb => ⟨Nat.lt_of_lt_of_le (HS.out b hb) HX.out.size, Or.inl hb⟩)).ext hx)⟩
   ·obtain ⟨x0, x1, x2, x3, x4, x5, x6, x7, rfl⟩ := list8r hl
    have he1 : x6 = .agg zs.toArray := he1
    have he2 : x7 = .int .i64 res.2 := he2
    subst he1 he2
    obtain ⟨zk, zb, zn, zs, zt, zu, zi, zm⟩ := z
    obtain ⟨zA, zc, zB, zd, rfl⟩ := hat.opened
    have HZw := q_ ((hx.block _ (zaf HZ.out)).trans HZ.out)
    have HXw := q_ (HX.out.trans hx)
    have HV : Hid (Val.At (fun b => S b ∨ Fresh (w.heap.size + 3) W b) W (Val.mk zk zb zn zs zt zu zi zm) [.int .i64 zk, .bool zb, .int .i64 zn, .string zs, .string zt, .string zu, .slice zA zi.length zc, .slice zB zm.length zd]) := q_ (Val.At.mono (fun b hb => hb.elim (fun h => h.2.imp id fun h2 => ⟨h2, Nat.lt_of_lt_of_le h.1 hx.size⟩) fun h => Or.inr ⟨Nat.le_trans HLo.out h.1, h.2⟩) _ _ hat)
    have HRz := q_ hz
    clear hat hz hx hkn hl
    simp only [List.take, List.drop, za0, Act.put, List.setIfInBounds_toArray, List.set_cons_zero, List.set_cons_succ]
    go_wp2_with ((with_reducible refine za4 ?_; refine zad rfl 27 _ _ rfl (w.heap.size + 2) 0 rfl [.int .i64 zk, .bool zb, .int .i64 zn, .string zs, .string zt, .string zu, .slice zA zi.length zc, .slice zB zm.length zd] rfl zaa rfl 27 _ HZw.out (by simp [zeroCells]) HV.out.one ?_))
    exact bodyPost_ret (v := .tuple #[.agg (show List Value from [.int .i64 zk, .bool zb, .int .i64 zn, .string zs, .string zt, .string zu, .slice zA zi.length zc, .slice zB zm.length zd]).toArray, .int .i64 res.2]) (zah Tryz.results42 rfl zae zaa rfl (zai HZw.out (by simp [zeroCells]))) rfl ⟨_, _, rfl, HRz.out, zone_row HV.out HS.out (by omega) HXw.out _, HXw.out.setRow (by omega) _⟩
end Go.Proofs.YtebfoimbdljbmaaGreatDoor

/-
  The document's answer for layer 14: what every expression comes to. The conditions: what is handed in lies in memory as it should; the entities are as they must be and their attributes not too deep.
-/
namespace Go.Proofs.YtebfoimbdljbmaaGreatDoor
open Go.RowKit
def Att3 (op : Int) : Prop := op = 1 ∨ op = 17 ∨ op = 18
theorem refT_ok {S : Nat → Prop} {q : Req} {c : List Ent} : ∀ n, RefOf Att3 S q c n
 | 0 => fun e w cs qc cv hn => by obtain ⟨op, ev, en, eks, ens⟩ := e; simp at hn
 | n + 1 => fun e w cs qc cv hn hl hqd hS he hq hen => by
  have ih := refT_ok n (S := S) (q := q) (c := c)
  obtain ⟨op, ev, en, eks, ens⟩ := e
  have ho : Att3 op := (Exp.fine_iff.1 hl).1
  rw [show (Exp.mk op ev en eks ens).ev q c = evOp q c op ev en ens (eks.map (Exp.ev q c)) from Exp.ev_def q c _]
  by_cases hb : zcu op eks.length ens.length = true
  ·exact evR_bad ih op ev en eks ens hb w cs qc cv hn hl hqd hS he hq hen
  have hg : zcu op eks.length ens.length = false := by simpa using hb
  rcases ho with rfl | rfl | rfl
  ·exact evR_lit ih ev en eks ens hg w cs qc cv hn hl hqd hS he hq hen
  ·exact evR_one ih 17 ev en eks ens hg rfl (oneR_17t c en) w cs qc cv hn hl hqd hS he hq hen
  ·exact evR_one ih 18 ev en eks ens hg rfl (oneR_18t c en) w cs qc cv hn hl hqd hS he hq hen
end Go.Proofs.YtebfoimbdljbmaaGreatDoor

/-
  What an expression comes to, as the document has it. The conditions: what is handed in lies in memory as it should; the entities are as they must be, and their attributes not deep.
-/
namespace Go.Proofs.YtebfoimbdljbmaaGreatDoor
open Go.RowKit
open Lib renaming hid → q_
set_option maxRecDepth 100000
set_option maxHeartbeats 4000000
theorem evalRA_ok {A : Int → Prop} {S : Nat → Prop} {q : Req} {c : List Ent} (hev : ∀ n, RefOf A S q c n) (hci : ∀ x ∈ c, x.av.Is) (e : Exp) (w : World) (cs qc : List Value) (cv : Value) (hd : e.dep ≤ 1000000) (hl : e.fine A) (hqd : q.ctx.dep ≤ 1000000) (hS : ∀ b, S b → b < w.heap.size) (he : Exp.At S w e cs) (hq : Req.At S w q qc) (hen : EntsIn S w c cv) :
  Calls Tryz.prog 17 #[.agg cs.toArray, .agg qc.toArray, cv] w (zci S (e.eval q c).1 (e.eval q c).2 w) := by
 have HS := q_ hS
 have HXe := q_ he
 have HQa := q_ hq
 have HEn := q_ hen
 have HQd := q_ hqd
 have HLi := q_ hl
 have HD0 := q_ (show e.eval q c = if 50 < e.dep then no 11 else e.ev q c from rfl)
 have HOk := q_ (Exp.ev_ok (q := q) hci (SizeOf.sizeOf e) e (Nat.le_refl _))
 obtain ⟨dp, hdp⟩ : ∃ d, e.dep = d := ⟨_, rfl⟩
 obtain ⟨cA, cc, rfl, _⟩ := id hen.2.1
 obtain ⟨vk, vb, vn, vs, vt, vu, vA, vl, vc, vB, vm, vd, rfl, _⟩ := hq.shape
 obtain ⟨eo, ev, en, eks, ens⟩ := e
 obtain ⟨lk, lb, ln, ls, lt, lu, lA, ll, lc, lB, lm, ld, eK, ec, eN, ed, hcs, _⟩ := Exp.At.shape he
 obtain rfl : cs = [.int .i64 eo, .int .i64 lk, .bool lb, .int .i64 ln, .string ls, .string lt, .string lu, .slice lA ll lc, .slice lB lm ld, .string en, .slice eK eks.length ec, .slice eN ens.length ed] := hcs
 obtain ⟨res, hres⟩ : ∃ res, (Exp.mk eo ev en eks ens).eval q c = res := ⟨_, rfl⟩
 rw [hres] at HD0 ⊢
 obtain ⟨p0, p1, p2, ps, px⟩ := zdn w (.cells #[.int .i64 eo, .int .i64 lk, .bool lb, .int .i64 ln, .string ls, .string lt, .string lu, .slice lA ll lc, .slice lB lm ld, .string en, .slice eK eks.length ec, .slice eN ens.length ed] 30) (.cells #[.string q.pr.1, .string q.pr.2, .string q.act.1, .string q.act.2, .string q.res.1, .string q.res.2, .int .i64 vk, .bool vb, .int .i64 vn, .string vs, .string vt, .string vu, .slice vA vl vc, .slice vB vm vd] 34) (.cells zeroCells.toArray 27)
 have HE0 := q_ p0
 have HQ0 := q_ p1
 have HZ0 := q_ p2
 have HX0 := q_ px
 clear p0 p1 p2 ps px
 have hc := depthR_ok (SizeOf.sizeOf (Exp.mk eo ev en eks ens)) (Exp.mk eo ev en eks ens) (((w.alloc (.cells #[.int .i64 eo, .int .i64 lk, .bool lb, .int .i64 ln, .string ls, .string lt, .string lu, .slice lA ll lc, .slice lB lm ld, .string en, .slice eK eks.length ec, .slice eN ens.length ed] 30)).alloc (.cells #[.string q.pr.1, .string q.pr.2, .string q.act.1, .string q.act.2, .string q.res.1, .string q.res.2, .int .i64 vk, .bool vb, .int .i64 vn, .string vs, .string vt, .string vu, .slice vA vl vc, .slice vB vm vd] 34)).alloc (.cells zeroCells.toArray 27)) [.int .i64 eo, .int .i64 lk, .bool lb, .int .i64 ln, .string ls, .string lt, .string lu, .slice lA ll lc, .slice lB lm ld, .string en, .slice eK eks.length ec, .slice eN ens.length ed] (Nat.le_refl _) hd (Exp.At.mono (fun b hb => Nat.lt_of_lt_of_le (hS b hb) HX0.out.size) _ _ (Exp.At.alike (Alike.of_ext HX0.out hS) _ _ he))
 rw [hdp] at hc HD0
 have HC := q_ hc
 clear hc hdp he hq hen hqd hl hd hres hS
 go_enter Tryz.func17, Tryz.ntmps17
 go_wp2_with ((with_reducible refine zaw ?_; refine zab rfl 30 _ rfl w.heap.size 0 rfl zar zao (cs := [.int .i64 eo, .int .i64 lk, .bool lb, .int .i64 ln, .string ls, .string lt, .string lu, .slice lA ll lc, .slice lB lm ld, .string en, .slice eK eks.length ec, .slice eN ens.length ed]) rfl (zak HE0.out) ?_))
 refine HC.out.mono ?_
 rintro e1 w1 ⟨rfl, hx1⟩
 have HX1 := q_ (HX0.out.trans hx1)
 have HE1 := q_ ((hx1.block _ (zaf HE0.out)).trans HE0.out)
 have HQ1 := q_ ((hx1.block _ (zaf HQ0.out)).trans HQ0.out)
 have HZ1 := q_ ((hx1.block _ (zaf HZ0.out)).trans HZ0.out)
 have Hlow : Hid (w.heap.size + 3 ≤ w1.heap.size) := q_ (by have := zaf HZ1.out; omega)
 clear hx1 HC HX0 HE0 HQ0 HZ0
 by_cases h50 : 50 < dp
 ·have t0 : decide ((50 : Int) < (dp : Int)) = true := by simp; omega
  have hh : res = (.zero, 11) := by rw [HD0.out, if_pos h50]; rfl
  subst hh
  clear h50
  go_wp2_with ((with_reducible refine za4 ?_; refine zad rfl 27 _ _ rfl (w.heap.size + 2) 0 rfl zeroCells rfl zaa rfl 27 zeroCells.toArray HZ1.out (by simp [zeroCells]) za2 ?_))
  exact bodyPost_ret (v := .tuple #[.agg (show List Value from zeroCells).toArray, .int .i64 11]) (zah Tryz.results17 rfl zae zaa rfl (zai HZ1.out (by simp [zeroCells]))) rfl ⟨zeroCells, rfl, Val.zero_at _ _, HX1.out.setRow (by omega) _⟩
 have t0 : decide ((50 : Int) < (dp : Int)) = false := by simp; omega
 have hh : (Exp.mk eo ev en eks ens).ev q c = res := by rw [HD0.out, if_neg h50]
 rw [hh] at HOk
 have hc := hev (SizeOf.sizeOf (Exp.mk eo ev en eks ens)) (Exp.mk eo ev en eks ens) w1 [.int .i64 eo, .int .i64 lk, .bool lb, .int .i64 ln, .string ls, .string lt, .string lu, .slice lA ll lc, .slice lB lm ld, .string en, .slice eK eks.length ec, .slice eN ens.length ed] [.string q.pr.1, .string q.pr.2, .string q.act.1, .string q.act.2, .string q.res.1, .string q.res.2, .int .i64 vk, .bool vb, .int .i64 vn, .string vs, .string vt, .string vu, .slice vA vl vc, .slice vB vm vd] (.slice cA c.length cc) (Nat.le_refl _) HLi.out HQd.out (fun b hb => Nat.lt_of_lt_of_le (HS.out b hb) HX1.out.size) (Exp.At.alike (Alike.of_ext HX1.out HS.out) _ _ HXe.out) (HQa.out.alike (Alike.of_ext HX1.out HS.out)) (HEn.out.ext HX1.out)
 rw [hh] at hc
 have HC := q_ hc
 clear h50 hh hc hev hci
 go_wp2_with (first | (with_reducible refine zaw ?_; refine zab rfl 30 _ rfl w.heap.size 0 rfl zar zao (cs := [.int .i64 eo, .int .i64 lk, .bool lb, .int .i64 ln, .string ls, .string lt, .string lu, .slice lA ll lc, .slice lB lm ld, .string en, .slice eK eks.length ec, .slice eN ens.length ed]) rfl (zak HE1.out) ?_) | (with_reducible refine zaw ?_; refine zab rfl 34 _ rfl (w.heap.size + 1) 0 rfl Tryz.aggQ Tryz.sizeQ (cs := [.string q.pr.1, .string q.pr.2, .string q.act.1, .string q.act.2, .string q.res.1, .string q.res.2, .int .i64 vk, .bool vb, .int .i64 vn, .string vs, .string vt, .string vu, .slice vA vl vc, .slice vB vm vd]) rfl (zak HQ1.out) ?_))
 refine HC.out.mono ?_
 rintro e9 w9 ⟨z, cv9, rfl, hz, hv, hx9⟩
 obtain ⟨r, er⟩ := res
 have hz : er = 0 → z = r := hz
 obtain ⟨zk, zb, zn, zs, zt, zu, zi, zm⟩ := z
 obtain ⟨zA, zc, zB, zd, rfl⟩ := hv.opened
 have HX9 := q_ (HX1.out.trans hx9)
 have HZ9 := q_ ((heap_alloc_old w9 (.cells #[.int .i64 zk, .bool zb, .int .i64 zn, .string zs, .string zt, .string zu, .slice zA zi.length zc, .slice zB zm.length zd] 27) (zaf ((hx9.block _ (zaf HZ1.out)).trans HZ1.out))).trans ((hx9.block _ (zaf HZ1.out)).trans HZ1.out))
 have HB9 := q_ (heap_alloc_new w9 (.cells #[.int .i64 zk, .bool zb, .int .i64 zn, .string zs, .string zt, .string zu, .slice zA zi.length zc, .slice zB zm.length zd] 27))
 have HXb := q_ (HX9.out.alloc (.cells #[.int .i64 zk, .bool zb, .int .i64 zn, .string zs, .string zt, .string zu, .slice zA zi.length zc, .slice zB zm.length zd] 27))
 have HV9 := q_ (zone_ext (w := w9) (fun b hb => Nat.lt_of_lt_of_le (HS.out b hb) HX9.out.size) hv ((Ext.refl w9).alloc (.cells #[.int .i64 zk, .bool zb, .int .i64 zn, .string zs, .string zt, .string zu, .slice zA zi.length zc, .slice zB zm.length zd] 27)))
 have Hz := q_ hz
 clear hv hx9 hz HC
 by_cases h0 : er = 0
 ·subst h0
  have hh := Hz.out rfl
  clear Hz
  subst hh
  go_wp2_with (first | (with_reducible refine zaw ?_; refine zab rfl 27 _ rfl w9.heap.size 0 rfl zae zaa (cs := [.int .i64 zk, .bool zb, .int .i64 zn, .string zs, .string zt, .string zu, .slice zA zi.length zc, .slice zB zm.length zd]) rfl (zak HB9.out) ?_) | (with_reducible refine za4 ?_; refine zad rfl 27 _ _ rfl (w.heap.size + 2) 0 rfl [.int .i64 zk, .bool zb, .int .i64 zn, .string zs, .string zt, .string zu, .slice zA zi.length zc, .slice zB zm.length zd] rfl zaa rfl 27 zeroCells.toArray HZ9.out (by simp [zeroCells]) HV9.out.one ?_))
  exact bodyPost_ret (v := .tuple #[.agg (show List Value from [.int .i64 zk, .bool zb, .int .i64 zn, .string zs, .string zt, .string zu, .slice zA zi.length zc, .slice zB zm.length zd]).toArray, .int .i64 0]) (zah Tryz.results17 rfl zae zaa rfl (zai HZ9.out (by simp [zeroCells]))) rfl ⟨_, rfl, zone_row (g := w.heap.size + 2) HV9.out HS.out (by omega) HXb.out _ (by have := Hlow.out; omega), HXb.out.setRow (by omega) _⟩
 ·have t1 : (er != 0) = true := by simpa using h0
  obtain rfl : r = .zero := HOk.out.2 h0
  clear h0 Hz
  go_wp2_with ((with_reducible refine za4 ?_; refine zad rfl 27 _ _ rfl (w.heap.size + 2) 0 rfl zeroCells rfl zaa rfl 27 zeroCells.toArray HZ9.out (by simp [zeroCells]) za2 ?_))
  exact bodyPost_ret (v := .tuple #[.agg (show List Value from zeroCells).toArray, .int .i64 er]) (zah Tryz.results17 rfl zae zaa rfl (zai HZ9.out (by simp [zeroCells]))) rfl ⟨zeroCells, rfl, Val.zero_at _ _, HXb.out.setRow (by omega) _⟩
end Go.Proofs.YtebfoimbdljbmaaGreatDoor
