/-
  One step of the program's evaluation: what asks for one value, for two. The conditions: what is handed in lies in memory as it should.
-/
import Derived.Test.YtebfoimbdljbmaaGreatDoorCallJQ
namespace Go.Proofs.YtebfoimbdljbmaaGreatDoor
open Go.RowKit
open Lib renaming hid → q_
set_option maxRecDepth 100000
set_option maxHeartbeats 4000000
noncomputable def lastV (c : List Ent) (op : Int) (name : ByteArray) : List Val → Rs
 | [a] => oneV c op name a
 | a :: b :: _ => twoV c op a b
 | [] => no 1
theorem evOp_last {q : Req} {c : List Ent} {op : Int} {v : Val} {name : ByteArray} {names : List ByteArray} {rs : List Rs} (hb : zcu op rs.length names.length = false) (h : op ≠ 1 ∧ op ≠ 2 ∧ op ≠ 3 ∧ op ≠ 4 ∧ op ≠ 5 ∧ op ≠ 7 ∧ op ≠ 19 ∧ op ≠ 20) :
  evOp q c op v name names rs = if (zda rs).2 ≠ 0 then no (zda rs).2 else lastV c op name (zda rs).1 := by
 obtain ⟨h1, h2, h3, h4, h5, h6, h7, h8⟩ := h
 unfold evOp
 rw [if_neg (by simp [hb]), if_neg h1, if_neg h2, if_neg h3, if_neg (fun h => h.elim h4 fun h => h.elim h5 h6), if_neg h7, if_neg h8]
 generalize (zda rs).1 = l
 match l with
 | [] => rfl
 | [a] => rfl
 | a :: b :: r => rfl
theorem map_four {f : Operand → Value} {x y z u : Operand} {v1 v2 v3 v4 : Value} (h : f x = v1) (k : f y = v2) (l : f z = v3) (m : f u = v4) : #[x, y, z, u].map f = #[v1, v2, v3, v4] := by simp [h, k, l, m]
theorem Tryz.und24 : Tryz.prog.underlying 24 = some (.slice (Tryz.prog.elem 24)) := by kernel_rfl
theorem Tryz.siz24 : ∀ w, (Go.sizeOf (Tryz.prog.elem 24)).run Tryz.prog w = .ok 8 w := fun _ => by kernel_rfl
theorem Tryz.aggInt : ∀ w, (isAgg 3).run Tryz.prog w = .ok false w := fun _ => by kernel_rfl
theorem Tryz.fieldEx0 (g : Nat) : ∀ w, (Instr.fieldAt 30 (.pointer (some ⟨g, 0, none⟩)) 0).run Tryz.prog w = .ok (.pointer (some ⟨g, 0, none⟩)) w := by
 intro w; simp [Instr.fieldAt, go_sem]
theorem eval_one {A : Int → Prop} {q : Req} {c : List Ent} {n : Nat} (ih : EvOf A q c n) (e : Exp) (g : Nat) (w : World) (cs : List Value) (hop : e.op = 6 ∨ e.op = 14 ∨ e.op = 16 ∨ e.op = 17 ∨ e.op = 18) (hgood : zcu e.op e.kids.length e.names.length = false) (hdo : ∀ (S : Nat → Prop) (a : Val) (W : World) (ca : List Value), (∀ b, S b → b < W.heap.size) → Rk q c W g → InX W e cs → Val.At S W a ca → Calls Tryz.prog 62 #[.pointer (some ⟨g, 0, none⟩), .agg cs.toArray, .agg ca.toArray] W (zci S (oneV c e.op e.name a).1 (oneV c e.op e.name a).2 W)) (hn : SizeOf.sizeOf e ≤ n + 1) (hl : e.fine A) (hr : Rk q c w g) (he : InX w e cs) :
  Calls Tryz.prog 35 #[.pointer (some ⟨g, 0, none⟩), .agg cs.toArray] w (zb0 (e.ev q c).1 (e.ev q c).2 w) := by
 have HXe := q_ he
 rw [Exp.ev_def q c e]
 have hkn : ∀ x ∈ e.kids, SizeOf.sizeOf x ≤ n := fun x hx => by have := e.kid_size hx; omega
 have hkl : ∀ x ∈ e.kids, x.fine A := (Exp.fine_iff.1 hl).2.2
 have hvd : e.v.dep ≤ 1000000 := (Exp.fine_iff.1 hl).2.1
 obtain ⟨eo, ev, en, eks, ens⟩ := e
 obtain ⟨lk, lb, ln, ls, lt, lu, lA, ll, lc, lB, lm, ld, eK, ec, eN, ed, hcs, _, hev, hek, hen⟩ := Exp.At.shape he
 obtain rfl : cs = [.int .i64 eo, .int .i64 lk, .bool lb, .int .i64 ln, .string ls, .string lt, .string lu, .slice lA ll lc, .slice lB lm ld, .string en, .slice eK eks.length ec, .slice eN ens.length ed] := hcs
 have hev : InW w ev [.int .i64 lk, .bool lb, .int .i64 ln, .string ls, .string lt, .string lu, .slice lA ll lc, .slice lB lm ld] := hev
 have hek : expR.RowsAt (fun b => b < w.heap.size) w eks (.slice eK eks.length ec) := hek
 have hen : StrsAt (fun b => b < w.heap.size) w ens (.slice eN ens.length ed) := hen
 have HN : Hid (∀ x ∈ eks, SizeOf.sizeOf x ≤ n) := q_ hkn
 have HL : Hid (∀ x ∈ eks, x.fine A) := q_ hkl
 have HVd : Hid (ev.dep ≤ 1000000) := q_ hvd
 have HEv := q_ hev
 have HEk := q_ hek
 have HEn := q_ hen
 have HRk := q_ hr
 have IH := q_ ih
 obtain ⟨res, hres⟩ : ∃ res, evOp q c eo ev en ens (eks.map (Exp.ev q c)) = res := ⟨_, rfl⟩
 rw [show evOp q c (Exp.mk eo ev en eks ens).op (Exp.mk eo ev en eks ens).v (Exp.mk eo ev en eks ens).name (Exp.mk eo ev en eks ens).names ((Exp.mk eo ev en eks ens).kids.map (Exp.ev q c)) = res from hres]
 have HD := q_ hres
 have hop : eo = 6 ∨ eo = 14 ∨ eo = 16 ∨ eo = 17 ∨ eo = 18 := hop
 have Hdo := q_ hdo
 clear hdo
 have hgood : zcu eo eks.length ens.length = false := hgood
 have har : zb3 eo = 1 := by rcases hop with rfl | rfl | rfl | rfl | rfl <;> rfl
 have hlen : eks.length = 1 := by
  have h := hgood
  unfold zcu at h
  rw [har] at h
  simp at h
  omega
 have q3 : ((eks.length : Int) != 1) = false := by simp [hlen]
 have e1 : (eo == 1) = false := by simp; omega
 have e2 : (eo == 2) = false := by simp; omega
 have e3 : (eo == 3) = false := by simp; omega
 have e4 : (eo == 4) = false := by simp; omega
 have e5 : (eo == 5) = false := by simp; omega
 have e7 : (eo == 7) = false := by simp; omega
 have e19 : (eo == 19) = false := by simp; omega
 have e20 : (eo == 20) = false := by simp; omega
 obtain ⟨p0, p1, ps, px⟩ := zdr w (.cells #[.int .i64 eo, .int .i64 lk, .bool lb, .int .i64 ln, .string ls, .string lt, .string lu, .slice lA ll lc, .slice lB lm ld, .string en, .slice eK eks.length ec, .slice eN ens.length ed] 30) (.cells zeroCells.toArray 27)
 have HE0 := q_ p0
 have HR0 := q_ p1
 have HX0 := q_ px
 clear p0 p1 ps px
 obtain ⟨⟨l, er⟩, hall⟩ : ∃ r, zda (eks.map (Exp.ev q c)) = r := ⟨_, rfl⟩
 have hll : er = 0 → l.length = 1 := fun h => by
  have := allV_len (l := eks.map (Exp.ev q c)); rw [hall] at this; simpa [hlen] using this h
 have hle : l.length ≤ 1 := by
  have := allV_le (eks.map (Exp.ev q c)); rw [hall] at this; simpa [hlen] using this
 have hD2 : res = if er ≠ 0 then no er else lastV c eo en l := by
  rw [← hres, evOp_last (by simpa using hgood) (by omega), hall]
 have HD2 := q_ hD2
 have ha := allE_ok ih eks g ((w.alloc (.cells #[.int .i64 eo, .int .i64 lk, .bool lb, .int .i64 ln, .string ls, .string lt, .string lu, .slice lA ll lc, .slice lB lm ld, .string en, .slice eK eks.length ec, .slice eN ens.length ed] 30)).alloc (.cells zeroCells.toArray 27)) (.slice eK eks.length ec) HN.out HL.out (hr.ext HX0.out) ((hek.alike (Alike.of_ext HX0.out fun _ h => h)).mono fun b hb => Nat.lt_of_lt_of_le hb HX0.out.size)
 rw [hall] at ha
 have HAll := q_ ha
 have HLL := q_ hll
 have HLe : Hid (l.length ≤ LIM) := q_ (by rw [zaq]; omega)
 have Hop := q_ hop
 clear hgood hlen hall hll hle hD2 ha hop
 have HK0 := q_ (zek eo ((w.alloc (.cells #[.int .i64 eo, .int .i64 lk, .bool lb, .int .i64 ln, .string ls, .string lt, .string lu, .slice lA ll lc, .slice lB lm ld, .string en, .slice eK eks.length ec, .slice eN ens.length ed] 30)).alloc (.cells zeroCells.toArray 27)))
 clear hn hl hr he hev hek hen ih hres hkn hkl hvd
 go_enter Tryz.func35, Tryz.ntmps35
 go_wp2_with fail
 refine HK0.out.mono ?_
 rintro e1 w1 ⟨rfl, rfl⟩
 rw [har]
 go_wp2_with fail
 refine HAll.out.mono ?_
 rintro e2 w2 ⟨v, rfl, ⟨vs, hown, hfl⟩, hx2⟩
 have HX2 := q_ (HX0.out.trans hx2)
 have HR2 := q_ ((hx2.block _ (zaf HR0.out)).trans HR0.out)
 have HE2 := q_ ((hx2.block _ (zaf HE0.out)).trans HE0.out)
 have Hlow : Hid (w.heap.size + 2 ≤ w2.heap.size) := q_ (by have := zaf HR2.out; omega)
 have c0 : w2.cell? ⟨w.heap.size, 0, none⟩ = some (.int .i64 eo) := cell_of_row _ _ 0 _ _ _ HE2.out
 have hvals : ValsAt (fun x => w.heap.size + 2 ≤ x ∧ x < w2.heap.size) w2 l v := own_vals hown hfl HLe.out (fun x hx => ⟨Nat.le_trans (by simp) hx.1, hx.2.1⟩) (fun x hx => ⟨Nat.le_trans (by simp) (hown.lt x hx).1, (hown.lt x hx).2⟩)
 obtain ⟨A, cap, rfl, hv1, hv2⟩ := id hvals
 have HV2 := q_ hv2
 clear hown hfl hx2 HX0 HR0 HE0 HAll hvals hv1 hv2
 by_cases h0 : er = 0
 case neg =>
  have t0 : (er != 0) = true := by simpa using h0
  have hh : res = (.zero, er) := by rw [HD2.out, if_pos h0]; rfl
  subst hh
  clear h0 c0
  go_wp2_with ((with_reducible refine za4 ?_; refine zad rfl 27 _ _ rfl (w.heap.size + 1) 0 rfl zeroCells rfl zaa rfl 27 zeroCells.toArray HR2.out (by simp [zeroCells]) za2 ?_))
  exact bodyPost_ret (v := .tuple #[.agg (show List Value from zeroCells).toArray, .int .i64 er]) (zah Tryz.results35 rfl zae zaa rfl (zai HR2.out (by simp [zeroCells]))) rfl ⟨zeroCells, rfl, Val.zero_at _ _, HX2.out.setRow (by omega) _⟩
 subst h0
 have hl0 := HLL.out rfl
 obtain ⟨bb, oo, rfl, hbb, hrow⟩ := HV2.out (by omega)
 have qn : ((l.length : Int) == 1) = true := by rw [hl0]; rfl
 obtain ⟨a, hla⟩ : ∃ a, l = [a] := by
  match l, hl0 with
  | [a], _ => exact ⟨a, rfl⟩
 have Hl := q_ hl0
 have Hbb := q_ hbb
 obtain ⟨ca, h8a, hca, hata⟩ := hrow.get (show l[0]? = some a by rw [hla]; rfl)
 have H8a := q_ h8a
 have Hca := q_ hca
 have Hata := q_ hata
 obtain ⟨z, ez⟩ := res
 have hR : oneV c eo en a = (z, ez) := by rw [HD2.out, if_neg (by simp), hla]; rfl
 have HCall : Hid (∀ W, GrownBy w2 W (some (w.heap.size + 1)) → Calls Tryz.prog 62 #[.pointer (some ⟨g, 0, none⟩), .agg ([.int .i64 eo, .int .i64 lk, .bool lb, .int .i64 ln, .string ls, .string lt, .string lu, .slice lA ll lc, .slice lB lm ld, .string en, .slice eK eks.length ec, .slice eN ens.length ed] : List Value).toArray, .agg ca.toArray] W (zci (fun x => w.heap.size + 2 ≤ x ∧ x < w2.heap.size) z ez W)) := q_ fun W hg => by
  have hxw : Ext w W := zav HX2.out hg fun b e => by injection e with e; omega
  have hal : Alike (fun x => w.heap.size + 2 ≤ x ∧ x < w2.heap.size) w2 W := fun y hy => hg.block y hy.2 (fun e => by injection e with e; have := hy.1; omega)
  have hc := Hdo.out (fun x => w.heap.size + 2 ≤ x ∧ x < w2.heap.size) a W ca (fun y hy => Nat.lt_of_lt_of_le hy.2 hg.size) (HRk.out.ext hxw) (HXe.out.ext hxw) (Val.At.alike hal _ _ Hata.out)
  rw [show oneV c (Exp.mk eo ev en eks ens).op (Exp.mk eo ev en eks ens).name a = (z, ez) from hR] at hc
  exact hc
 clear hl0 hbb hrow hR hla h8a hca hata
 go_wp2_with fail
 refine zdw 10 (CallJ w2 (w.heap.size + 1) (w.heap.size + 2) 5 [(.pointer (some ⟨g, 0, none⟩)), (.agg ([.int .i64 eo, .int .i64 lk, .bool lb, .int .i64 ln, .string ls, .string lt, .string lu, .slice lA ll lc, .slice lB lm ld, .string en, .slice eK eks.length ec, .slice eN ens.length ed] : List Value).toArray), (.slice (some ⟨bb, oo, none⟩) l.length cap), (.pointer (some ⟨bb, oo + 0 * 8, none⟩)), (.agg ca.toArray)] z ez) (by kernel_rfl) (by kernel_rfl) (by kernel_rfl) (fun L L' xs W he h => h.congr 10 rfl he) (fun xs _ => CallJ.start HR2.out) (fun i o hi' ho L xs W a' hlen hJ hL hw hcl hold hat Q K hK => ?_) ?_
 ·obtain ⟨_, hx, hp, _⟩ := id hJ
  rcases (by omega : i = 0 ∨ i = 1 ∨ i = 2 ∨ i = 3 ∨ i = 4 ∨ i = 5 ∨ i = 6 ∨ i = 7 ∨ i = 8 ∨ i = 9) with rfl | rfl | rfl | rfl | rfl | rfl | rfl | rfl | rfl | rfl <;> obtain rfl := Option.some.inj ho
  ·exact za1 (zbd rfl (hold 0 (by kernel_rfl))) (hK _ _ (hJ.pre (by omega) hlen rfl))
  ·exact za1 (zat 30 _ rfl w.heap.size 0 (hold 3 (by kernel_rfl)) zar zao (cs := [.int .i64 eo, .int .i64 lk, .bool lb, .int .i64 ln, .string ls, .string lt, .string lu, .slice lA ll lc, .slice lB lm ld, .string en, .slice eK eks.length ec, .slice eN ens.length ed]) rfl (zak ((hx.block _ (zaf HE2.out) (fun e => by injection e with e; omega)).trans HE2.out))) (hK _ _ (hJ.pre (by omega) hlen rfl))
  ·exact za1 (zbd rfl (hold 7 (by kernel_rfl))) (hK _ _ (hJ.pre (by omega) hlen rfl))
  ·exact za1 (zc0 rfl ((hat 2 108 (by omega) (by kernel_rfl)).trans (hp 2 (by omega) (hw 2 (by omega) (by kernel_rfl)))) (show _ = Value.int .i64 ((0 : Nat) : Int) from rfl) Tryz.und24 Tryz.siz24 (by rw [Hl.out]; decide)) (hK _ _ (hJ.pre (by omega) hlen rfl))
  ·exact za1 (zat 27 _ rfl bb (oo + 0 * 8) ((hat 3 109 (by omega) (by kernel_rfl)).trans (hp 3 (by omega) (hw 3 (by omega) (by kernel_rfl)))) zae zaa H8a.out (Hca.out.alike (S := (fun x => w.heap.size + 2 ≤ x ∧ x < w2.heap.size)) Hbb.out (fun y hy => hx.block y hy.2 (fun e => by injection e with e; have := hy.1; omega)))) (hK _ _ (hJ.pre (by omega) hlen rfl))
  ·have f1 : L 6 = false := by cases e : L 6 with | false => rfl | true => exact absurd (hcl 6 5 (by omega) (by omega) e (by kernel_rfl)) (by rw [hL]; decide)
   have f2 : L 7 = false := by cases e : L 7 with | false => rfl | true => exact absurd (hcl 7 5 (by omega) (by omega) e (by kernel_rfl)) (by rw [hL]; decide)
   have f3 : L 8 = false := by cases e : L 8 with | false => rfl | true => exact absurd (hcl 8 6 (by omega) (by omega) e (by kernel_rfl)) (by rw [f1]; decide)
   have f4 : L 9 = false := by cases e : L 9 with | false => rfl | true => exact absurd (hcl 9 7 (by omega) (by omega) e (by kernel_rfl)) (by rw [f2]; decide)
   refine zc3 (Φ := fun v W' => CallJ w2 (w.heap.size + 1) (w.heap.size + 2) 5 [(.pointer (some ⟨g, 0, none⟩)), (.agg ([.int .i64 eo, .int .i64 lk, .bool lb, .int .i64 ln, .string ls, .string lt, .string lu, .slice lA ll lc, .slice lB lm ld, .string en, .slice eK eks.length ec, .slice eN ens.length ed] : List Value).toArray), (.slice (some ⟨bb, oo, none⟩) l.length cap), (.pointer (some ⟨bb, oo + 0 * 8, none⟩)), (.agg ca.toArray)] z ez (done L 5) (xs.set 5 v) W') (zco Tryz.func62 rfl rfl rfl (map_three ((hat 0 106 (by omega) (by kernel_rfl)).trans (hp 0 (by omega) (hw 0 (by omega) (by kernel_rfl)))) ((hat 1 107 (by omega) (by kernel_rfl)).trans (hp 1 (by omega) (hw 1 (by omega) (by kernel_rfl)))) ((hat 4 110 (by omega) (by kernel_rfl)).trans (hp 4 (by omega) (hw 4 (by omega) (by kernel_rfl)))))) ?_ (fun v W' h => hK _ _ h)
   refine (HCall.out W hx).mono ?_
   rintro e3 w3 ⟨cv, rfl, hv, hx3⟩
   refine ⟨_, rfl, ?_⟩
   have hw3 : w2.heap.size ≤ w3.heap.size := Nat.le_trans hx.size hx3.size
   exact hJ.call hlen f1 f2 f3 f4 hx3 (hv.mono fun y hy => hy.elim (fun h => ⟨h.1, Nat.lt_of_lt_of_le h.2 hw3⟩) fun h => ⟨by have := h.1; have := hx.size; have := Hlow.out; omega, h.2⟩)
  ·obtain ⟨cv, h1, h2⟩ := hJ.ext1 hlen
   exact za1 (zbn rfl ((hat 5 111 (by omega) (by kernel_rfl)).trans (h1 (hw 5 (by omega) (by kernel_rfl)))) rfl) (hK _ _ h2)
  ·obtain ⟨cv, h1, h2⟩ := hJ.ext2 hlen
   exact za1 (zbn rfl ((hat 5 111 (by omega) (by kernel_rfl)).trans (h1 (hw 5 (by omega) (by kernel_rfl)))) rfl) (hK _ _ h2)
  ·have k6 := hw 6 (by omega) (by kernel_rfl)
   have k5 := hcl 6 5 (by omega) (by omega) k6 (by kernel_rfl)
   obtain ⟨cv, h1, h2, h3, h4, h5⟩ := hJ.store (by omega) k5 k6 hL
   exact wp_skipped (zcv rfl (hold 4 (by kernel_rfl)) ((hat 6 112 (by omega) (by kernel_rfl)).trans h1) zaa h2 h4 (by rw [h2]; rfl) h3) (hK undef _ (h5 undef))
  ·obtain ⟨cv, _, _, _, _, h7, _⟩ := id hJ
   exact za1 (zdg rfl ((hat 7 113 (by omega) (by kernel_rfl)).trans (h7 (hw 7 (by omega) (by kernel_rfl))))) (hK _ _ (hJ.asg hlen))
 intro L xs W hxl hall hJ
 obtain ⟨cv, hx, hp, h5, h6, h7, h9, hz, hc⟩ := hJ
 match xs, hxl with
 | [y0, y1, y2, y3, y4, y5, y6, y7, y8, y9], _ =>
 have e9 : y9 = .int .i64 ez := h9 (hall 9 (by omega))
 have hrow := hc (hall 8 (by omega))
 have hv := (h5 (hall 5 (by omega))).2
 subst e9
 simp only [List.take, List.drop, za0, Act.put, List.setIfInBounds_toArray, List.set_cons_zero, List.set_cons_succ]
 have HRw := q_ hrow
 have HVv := q_ hv
 have HXw : Hid (Ext w W) := q_ (zav HX2.out hx fun b e => by injection e with e; omega)
 clear hx hp h5 h6 h7 h9 hz hc hrow hv hall c0
 go_wp2_with fail
 exact bodyPost_ret (v := .tuple #[.agg cv.toArray, .int .i64 ez]) (zah Tryz.results35 rfl zae zaa HVv.out.length (zak HRw.out)) rfl ⟨cv, rfl, HVv.out.mono fun y hy => ⟨by have := hy.1; omega, hy.2⟩, HXw.out⟩
theorem eval_two {A : Int → Prop} {q : Req} {c : List Ent} {n : Nat} (ih : EvOf A q c n) (e : Exp) (g : Nat) (w : World) (cs : List Value) (hop : e.op = 8 ∨ e.op = 9 ∨ e.op = 10 ∨ e.op = 11 ∨ e.op = 12 ∨ e.op = 13 ∨ e.op = 15 ∨ e.op = 21 ∨ e.op = 22 ∨ e.op = 23) (hgood : zcu e.op e.kids.length e.names.length = false) (hdo : ∀ (S : Nat → Prop) (a b : Val) (W : World) (ca cb : List Value), (∀ b, S b → b < W.heap.size) → Rk q c W g → Val.At S W a ca → Val.At S W b cb → Calls Tryz.prog 63 #[.pointer (some ⟨g, 0, none⟩), .int .i64 e.op, .agg ca.toArray, .agg cb.toArray] W (zci S (twoV c e.op a b).1 (twoV c e.op a b).2 W)) (hn : SizeOf.sizeOf e ≤ n + 1) (hl : e.fine A) (hr : Rk q c w g) (he : InX w e cs) :
  Calls Tryz.prog 35 #[.pointer (some ⟨g, 0, none⟩), .agg cs.toArray] w (zb0 (e.ev q c).1 (e.ev q c).2 w) := by
 have HXe := q_ he
 rw [Exp.ev_def q c e]
 have hkn : ∀ x ∈ e.kids, SizeOf.sizeOf x ≤ n := fun x hx => by have := e.kid_size hx; omega
 have hkl : ∀ x ∈ e.kids, x.fine A := (Exp.fine_iff.1 hl).2.2
 have hvd : e.v.dep ≤ 1000000 := (Exp.fine_iff.1 hl).2.1
 obtain ⟨eo, ev, en, eks, ens⟩ := e
 obtain ⟨lk, lb, ln, ls, lt, lu, lA, ll, lc, lB, lm, ld, eK, ec, eN, ed, hcs, _, hev, hek, hen⟩ := Exp.At.shape he
 obtain rfl : cs = [.int .i64 eo, .int .i64 lk, .bool lb, .int .i64 ln, .string ls, .string lt, .string lu, .slice lA ll lc, .slice lB lm ld, .string en, .slice eK eks.length ec, .slice eN ens.length ed] := hcs
 have hev : InW w ev [.int .i64 lk, .bool lb, .int .i64 ln, .string ls, .string lt, .string lu, .slice lA ll lc, .slice lB lm ld] := hev
 have hek : expR.RowsAt (fun b => b < w.heap.size) w eks (.slice eK eks.length ec) := hek
 have hen : StrsAt (fun b => b < w.heap.size) w ens (.slice eN ens.length ed) := hen
 have HN : Hid (∀ x ∈ eks, SizeOf.sizeOf x ≤ n) := q_ hkn
 have HL : Hid (∀ x ∈ eks, x.fine A) := q_ hkl
 have HVd : Hid (ev.dep ≤ 1000000) := q_ hvd
 have HEv := q_ hev
 have HEk := q_ hek
 have HEn := q_ hen
 have HRk := q_ hr
 have IH := q_ ih
 obtain ⟨res, hres⟩ : ∃ res, evOp q c eo ev en ens (eks.map (Exp.ev q c)) = res := ⟨_, rfl⟩
 rw [show evOp q c (Exp.mk eo ev en eks ens).op (Exp.mk eo ev en eks ens).v (Exp.mk eo ev en eks ens).name (Exp.mk eo ev en eks ens).names ((Exp.mk eo ev en eks ens).kids.map (Exp.ev q c)) = res from hres]
 have HD := q_ hres
 have hop : eo = 8 ∨ eo = 9 ∨ eo = 10 ∨ eo = 11 ∨ eo = 12 ∨ eo = 13 ∨ eo = 15 ∨ eo = 21 ∨ eo = 22 ∨ eo = 23 := hop
 have Hdo := q_ hdo
 clear hdo
 have hgood : zcu eo eks.length ens.length = false := hgood
 have har : zb3 eo = 2 := by rcases hop with rfl | rfl | rfl | rfl | rfl | rfl | rfl | rfl | rfl | rfl <;> rfl
 have hlen : eks.length = 2 := by
  have h := hgood
  unfold zcu at h
  rw [har] at h
  simp at h
  omega
 have q3 : ((eks.length : Int) != 2) = false := by simp [hlen]
 have e1 : (eo == 1) = false := by simp; omega
 have e2 : (eo == 2) = false := by simp; omega
 have e3 : (eo == 3) = false := by simp; omega
 have e4 : (eo == 4) = false := by simp; omega
 have e5 : (eo == 5) = false := by simp; omega
 have e7 : (eo == 7) = false := by simp; omega
 have e19 : (eo == 19) = false := by simp; omega
 have e20 : (eo == 20) = false := by simp; omega
 obtain ⟨p0, p1, ps, px⟩ := zdr w (.cells #[.int .i64 eo, .int .i64 lk, .bool lb, .int .i64 ln, .string ls, .string lt, .string lu, .slice lA ll lc, .slice lB lm ld, .string en, .slice eK eks.length ec, .slice eN ens.length ed] 30) (.cells zeroCells.toArray 27)
 have HE0 := q_ p0
 have HR0 := q_ p1
 have HX0 := q_ px
 clear p0 p1 ps px
 obtain ⟨⟨l, er⟩, hall⟩ : ∃ r, zda (eks.map (Exp.ev q c)) = r := ⟨_, rfl⟩
 have hll : er = 0 → l.length = 2 := fun h => by
  have := allV_len (l := eks.map (Exp.ev q c)); rw [hall] at this; simpa [hlen] using this h
 have hle : l.length ≤ 2 := by
  have := allV_le (eks.map (Exp.ev q c)); rw [hall] at this; simpa [hlen] using this
 have hD2 : res = if er ≠ 0 then no er else lastV c eo en l := by
  rw [← hres, evOp_last (by simpa using hgood) (by omega), hall]
 have HD2 := q_ hD2
 have ha := allE_ok ih eks g ((w.alloc (.cells #[.int .i64 eo, .int .i64 lk, .bool lb, .int .i64 ln, .string ls, .string lt, .string lu, .slice lA ll lc, .slice lB lm ld, .string en, .slice eK eks.length ec, .slice eN ens.length ed] 30)).alloc (.cells zeroCells.toArray 27)) (.slice eK eks.length ec) HN.out HL.out (hr.ext HX0.out) ((hek.alike (Alike.of_ext HX0.out fun _ h => h)).mono fun b hb => Nat.lt_of_lt_of_le hb HX0.out.size)
 rw [hall] at ha
 have HAll := q_ ha
 have HLL := q_ hll
 have HLe : Hid (l.length ≤ LIM) := q_ (by rw [zaq]; omega)
 have Hop := q_ hop
 clear hgood hlen hall hll hle hD2 ha hop
 have HK0 := q_ (zek eo ((w.alloc (.cells #[.int .i64 eo, .int .i64 lk, .bool lb, .int .i64 ln, .string ls, .string lt, .string lu, .slice lA ll lc, .slice lB lm ld, .string en, .slice eK eks.length ec, .slice eN ens.length ed] 30)).alloc (.cells zeroCells.toArray 27)))
 clear hn hl hr he hev hek hen ih hres hkn hkl hvd
 go_enter Tryz.func35, Tryz.ntmps35
 go_wp2_with fail
 refine HK0.out.mono ?_
 rintro e1 w1 ⟨rfl, rfl⟩
 rw [har]
 go_wp2_with fail
 refine HAll.out.mono ?_
 rintro e2 w2 ⟨v, rfl, ⟨vs, hown, hfl⟩, hx2⟩
 have HX2 := q_ (HX0.out.trans hx2)
 have HR2 := q_ ((hx2.block _ (zaf HR0.out)).trans HR0.out)
 have HE2 := q_ ((hx2.block _ (zaf HE0.out)).trans HE0.out)
 have Hlow : Hid (w.heap.size + 2 ≤ w2.heap.size) := q_ (by have := zaf HR2.out; omega)
 have c0 : w2.cell? ⟨w.heap.size, 0, none⟩ = some (.int .i64 eo) := cell_of_row _ _ 0 _ _ _ HE2.out
 have hvals : ValsAt (fun x => w.heap.size + 2 ≤ x ∧ x < w2.heap.size) w2 l v := own_vals hown hfl HLe.out (fun x hx => ⟨Nat.le_trans (by simp) hx.1, hx.2.1⟩) (fun x hx => ⟨Nat.le_trans (by simp) (hown.lt x hx).1, (hown.lt x hx).2⟩)
 obtain ⟨A, cap, rfl, hv1, hv2⟩ := id hvals
 have HV2 := q_ hv2
 clear hown hfl hx2 HX0 HR0 HE0 HAll hvals hv1 hv2
 by_cases h0 : er = 0
 case neg =>
  have t0 : (er != 0) = true := by simpa using h0
  have hh : res = (.zero, er) := by rw [HD2.out, if_pos h0]; rfl
  subst hh
  clear h0 c0
  go_wp2_with ((with_reducible refine za4 ?_; refine zad rfl 27 _ _ rfl (w.heap.size + 1) 0 rfl zeroCells rfl zaa rfl 27 zeroCells.toArray HR2.out (by simp [zeroCells]) za2 ?_))
  exact bodyPost_ret (v := .tuple #[.agg (show List Value from zeroCells).toArray, .int .i64 er]) (zah Tryz.results35 rfl zae zaa rfl (zai HR2.out (by simp [zeroCells]))) rfl ⟨zeroCells, rfl, Val.zero_at _ _, HX2.out.setRow (by omega) _⟩
 subst h0
 have hl0 := HLL.out rfl
 obtain ⟨bb, oo, rfl, hbb, hrow⟩ := HV2.out (by omega)
 have qn : ((l.length : Int) == 1) = false := by rw [hl0]; rfl
 obtain ⟨a, b, hla⟩ : ∃ a b, l = [a, b] := by
  match l, hl0 with
  | [a, b], _ => exact ⟨a, b, rfl⟩
 have Hl := q_ hl0
 have Hbb := q_ hbb
 obtain ⟨ca, h8a, hca, hata⟩ := hrow.get (show l[0]? = some a by rw [hla]; rfl)
 have H8a := q_ h8a
 have Hca := q_ hca
 have Hata := q_ hata
 obtain ⟨cb, h8b, hcb, hatb⟩ := hrow.get (show l[1]? = some b by rw [hla]; rfl)
 have H8b := q_ h8b
 have Hcb := q_ hcb
 have Hatb := q_ hatb
 obtain ⟨z, ez⟩ := res
 have hR : twoV c eo a b = (z, ez) := by rw [HD2.out, if_neg (by simp), hla]; rfl
 have HCall : Hid (∀ W, GrownBy w2 W (some (w.heap.size + 1)) → Calls Tryz.prog 63 #[.pointer (some ⟨g, 0, none⟩), .int .i64 eo, .agg ca.toArray, .agg cb.toArray] W (zci (fun x => w.heap.size + 2 ≤ x ∧ x < w2.heap.size) z ez W)) := q_ fun W hg => by
  have hxw : Ext w W := zav HX2.out hg fun b e => by injection e with e; omega
  have hal : Alike (fun x => w.heap.size + 2 ≤ x ∧ x < w2.heap.size) w2 W := fun y hy => hg.block y hy.2 (fun e => by injection e with e; have := hy.1; omega)
  have hc := Hdo.out (fun x => w.heap.size + 2 ≤ x ∧ x < w2.heap.size) a b W ca cb (fun y hy => Nat.lt_of_lt_of_le hy.2 hg.size) (HRk.out.ext hxw) (Val.At.alike hal _ _ Hata.out) (Val.At.alike hal _ _ Hatb.out)
  rw [show twoV c (Exp.mk eo ev en eks ens).op a b = (z, ez) from hR] at hc
  exact hc
 clear hl0 hbb hrow hR hla h8a hca hata h8b hcb hatb
 go_wp2_with fail
 refine zdw 14 (CallJ w2 (w.heap.size + 1) (w.heap.size + 2) 9 [(.pointer (some ⟨g, 0, none⟩)), (.pointer (some ⟨w.heap.size, 0, none⟩)), (.int .i64 eo), (.slice (some ⟨bb, oo, none⟩) l.length cap), (.pointer (some ⟨bb, oo + 0 * 8, none⟩)), (.agg ca.toArray), (.slice (some ⟨bb, oo, none⟩) l.length cap), (.pointer (some ⟨bb, oo + 1 * 8, none⟩)), (.agg cb.toArray)] z ez) (by kernel_rfl) (by kernel_rfl) (by kernel_rfl) (fun L L' xs W he h => h.congr 14 rfl he) (fun xs _ => CallJ.start HR2.out) (fun i o hi' ho L xs W a' hlen hJ hL hw hcl hold hat Q K hK => ?_) ?_
 ·obtain ⟨_, hx, hp, _⟩ := id hJ
  rcases (by omega : i = 0 ∨ i = 1 ∨ i = 2 ∨ i = 3 ∨ i = 4 ∨ i = 5 ∨ i = 6 ∨ i = 7 ∨ i = 8 ∨ i = 9 ∨ i = 10 ∨ i = 11 ∨ i = 12 ∨ i = 13) with rfl | rfl | rfl | rfl | rfl | rfl | rfl | rfl | rfl | rfl | rfl | rfl | rfl | rfl <;> obtain rfl := Option.some.inj ho
  ·exact za1 (zbd rfl (hold 0 (by kernel_rfl))) (hK _ _ (hJ.pre (by omega) hlen rfl))
  ·exact za1 (za8 30 _ 0 rfl (hold 3 (by kernel_rfl)) (Tryz.fieldEx0 _)) (hK _ _ (hJ.pre (by omega) hlen rfl))
  ·exact za1 (za9 _ _ rfl w.heap.size 0 ((hat 1 115 (by omega) (by kernel_rfl)).trans (hp 1 (by omega) (hw 1 (by omega) (by kernel_rfl)))) Tryz.aggInt (cell_of_row _ _ 0 _ _ _ ((hx.block _ (zaf HE2.out) (fun e => by injection e with e; omega)).trans HE2.out))) (hK _ _ (hJ.pre (by omega) hlen rfl))
  ·exact za1 (zbd rfl (hold 7 (by kernel_rfl))) (hK _ _ (hJ.pre (by omega) hlen rfl))
  ·exact za1 (zc0 rfl ((hat 3 117 (by omega) (by kernel_rfl)).trans (hp 3 (by omega) (hw 3 (by omega) (by kernel_rfl)))) (show _ = Value.int .i64 ((0 : Nat) : Int) from rfl) Tryz.und24 Tryz.siz24 (by rw [Hl.out]; decide)) (hK _ _ (hJ.pre (by omega) hlen rfl))
  ·exact za1 (zat 27 _ rfl bb (oo + 0 * 8) ((hat 4 118 (by omega) (by kernel_rfl)).trans (hp 4 (by omega) (hw 4 (by omega) (by kernel_rfl)))) zae zaa H8a.out (Hca.out.alike (S := (fun x => w.heap.size + 2 ≤ x ∧ x < w2.heap.size)) Hbb.out (fun y hy => hx.block y hy.2 (fun e => by injection e with e; have := hy.1; omega)))) (hK _ _ (hJ.pre (by omega) hlen rfl))
  ·exact za1 (zbd rfl (hold 7 (by kernel_rfl))) (hK _ _ (hJ.pre (by omega) hlen rfl))
  ·exact za1 (zc0 rfl ((hat 6 120 (by omega) (by kernel_rfl)).trans (hp 6 (by omega) (hw 6 (by omega) (by kernel_rfl)))) (show _ = Value.int .i64 ((1 : Nat) : Int) from rfl) Tryz.und24 Tryz.siz24 (by rw [Hl.out]; decide)) (hK _ _ (hJ.pre (by omega) hlen rfl))
  ·exact za1 (zat 27 _ rfl bb (oo + 1 * 8) ((hat 7 121 (by omega) (by kernel_rfl)).trans (hp 7 (by omega) (hw 7 (by omega) (by kernel_rfl)))) zae zaa H8b.out (Hcb.out.alike (S := (fun x => w.heap.size + 2 ≤ x ∧ x < w2.heap.size)) Hbb.out (fun y hy => hx.block y hy.2 (fun e => by injection e with e; have := hy.1; omega)))) (hK _ _ (hJ.pre (by omega) hlen rfl))
  ·have f1 : L 10 = false := by cases e : L 10 with | false => rfl | true => exact absurd (hcl 10 9 (by omega) (by omega) e (by kernel_rfl)) (by rw [hL]; decide)
   have f2 : L 11 = false := by cases e : L 11 with | false => rfl | true => exact absurd (hcl 11 9 (by omega) (by omega) e (by kernel_rfl)) (by rw [hL]; decide)
   have f3 : L 12 = false := by cases e : L 12 with | false => rfl | true => exact absurd (hcl 12 10 (by omega) (by omega) e (by kernel_rfl)) (by rw [f1]; decide)
   have f4 : L 13 = false := by cases e : L 13 with | false => rfl | true => exact absurd (hcl 13 11 (by omega) (by omega) e (by kernel_rfl)) (by rw [f2]; decide)
   refine zc3 (Φ := fun v W' => CallJ w2 (w.heap.size + 1) (w.heap.size + 2) 9 [(.pointer (some ⟨g, 0, none⟩)), (.pointer (some ⟨w.heap.size, 0, none⟩)), (.int .i64 eo), (.slice (some ⟨bb, oo, none⟩) l.length cap), (.pointer (some ⟨bb, oo + 0 * 8, none⟩)), (.agg ca.toArray), (.slice (some ⟨bb, oo, none⟩) l.length cap), (.pointer (some ⟨bb, oo + 1 * 8, none⟩)), (.agg cb.toArray)] z ez (done L 9) (xs.set 9 v) W') (zco Tryz.func63 rfl rfl rfl (map_four ((hat 0 114 (by omega) (by kernel_rfl)).trans (hp 0 (by omega) (hw 0 (by omega) (by kernel_rfl)))) ((hat 2 116 (by omega) (by kernel_rfl)).trans (hp 2 (by omega) (hw 2 (by omega) (by kernel_rfl)))) ((hat 5 119 (by omega) (by kernel_rfl)).trans (hp 5 (by omega) (hw 5 (by omega) (by kernel_rfl)))) ((hat 8 122 (by omega) (by kernel_rfl)).trans (hp 8 (by omega) (hw 8 (by omega) (by kernel_rfl)))))) ?_ (fun v W' h => hK _ _ h)
   refine (HCall.out W hx).mono ?_
   rintro e3 w3 ⟨cv, rfl, hv, hx3⟩
   refine ⟨_, rfl, ?_⟩
   have hw3 : w2.heap.size ≤ w3.heap.size := Nat.le_trans hx.size hx3.size
   exact hJ.call hlen f1 f2 f3 f4 hx3 (hv.mono fun y hy => hy.elim (fun h => ⟨h.1, Nat.lt_of_lt_of_le h.2 hw3⟩) fun h => ⟨by have := h.1; have := hx.size; have := Hlow.out; omega, h.2⟩)
  ·obtain ⟨cv, h1, h2⟩ := hJ.ext1 hlen
   exact za1 (zbn rfl ((hat 9 123 (by omega) (by kernel_rfl)).trans (h1 (hw 9 (by omega) (by kernel_rfl)))) rfl) (hK _ _ h2)
  ·obtain ⟨cv, h1, h2⟩ := hJ.ext2 hlen
   exact za1 (zbn rfl ((hat 9 123 (by omega) (by kernel_rfl)).trans (h1 (hw 9 (by omega) (by kernel_rfl)))) rfl) (hK _ _ h2)
  ·have k6 := hw 10 (by omega) (by kernel_rfl)
   have k5 := hcl 10 9 (by omega) (by omega) k6 (by kernel_rfl)
   obtain ⟨cv, h1, h2, h3, h4, h5⟩ := hJ.store (by omega) k5 k6 hL
   exact wp_skipped (zcv rfl (hold 4 (by kernel_rfl)) ((hat 10 124 (by omega) (by kernel_rfl)).trans h1) zaa h2 h4 (by rw [h2]; rfl) h3) (hK undef _ (h5 undef))
  ·obtain ⟨cv, _, _, _, _, h7, _⟩ := id hJ
   exact za1 (zdg rfl ((hat 11 125 (by omega) (by kernel_rfl)).trans (h7 (hw 11 (by omega) (by kernel_rfl))))) (hK _ _ (hJ.asg hlen))
 intro L xs W hxl hall hJ
 obtain ⟨cv, hx, hp, h5, h6, h7, h9, hz, hc⟩ := hJ
 match xs, hxl with
 | [y0, y1, y2, y3, y4, y5, y6, y7, y8, y9, y10, y11, y12, y13], _ =>
 have e9 : y13 = .int .i64 ez := h9 (hall 13 (by omega))
 have hrow := hc (hall 12 (by omega))
 have hv := (h5 (hall 9 (by omega))).2
 subst e9
 simp only [List.take, List.drop, za0, Act.put, List.setIfInBounds_toArray, List.set_cons_zero, List.set_cons_succ]
 have HRw := q_ hrow
 have HVv := q_ hv
 have HXw : Hid (Ext w W) := q_ (zav HX2.out hx fun b e => by injection e with e; omega)
 clear hx hp h5 h6 h7 h9 hz hc hrow hv hall c0
 go_wp2_with fail
 exact bodyPost_ret (v := .tuple #[.agg cv.toArray, .int .i64 ez]) (zah Tryz.results35 rfl zae zaa HVv.out.length (zak HRw.out)) rfl ⟨cv, rfl, HVv.out.mono fun y hy => ⟨by have := hy.1; omega, hy.2⟩, HXw.out⟩
end Go.Proofs.YtebfoimbdljbmaaGreatDoor
