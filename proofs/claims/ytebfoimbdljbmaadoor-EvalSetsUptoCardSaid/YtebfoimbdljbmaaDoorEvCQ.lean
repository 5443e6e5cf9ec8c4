/-
  One step of the program's evaluation: sets and records. The conditions: what is handed in lies in memory as it should.
-/
import Derived.Test.YtebfoimbdljbmaaDoorEvEQ
namespace Go.Proofs.YtebfoimbdljbmaaDoor
open Go.RowKit
theorem Val.col_at {S : Nat → Prop} {w : World} {l : List Val} {names : List ByteArray} {v nv : Value} (k : Int) (hk : I64 k) (h : ValsAt S w l v) (hn : StrsAt S w names nv) : Val.At S w (.mk k false 0 ByteArray.empty ByteArray.empty ByteArray.empty l names) [.int .i64 k, .bool false, .int .i64 0, .string ByteArray.empty, .string ByteArray.empty, .string ByteArray.empty, v, nv] := by
  obtain ⟨A, cap, rfl, h3, h4⟩ := h
  unfold Val.At
  exact ⟨A, cap, nv, rfl, ⟨hk, ⟨by omega, by omega⟩, by simp, by simp, by simp⟩, h3, h4, hn⟩
theorem allV_le : ∀ l : List Rs, (allV l).1.length ≤ l.length
  | [] => by simp [allV]
  | r :: l => by
    have := allV_le l
    unfold allV
    repeat' split
    all_goals simp
    all_goals omega
set_option maxRecDepth 100000 in
set_option maxHeartbeats 4000000 in
theorem eval_set {A : Int → Prop} {q : Req} {c : List Ent} {n : Nat} (ih : EvOf A q c n) (e : Exp) (g : Nat) (w : World) (cs : List Value) (hcd : ∀ x ∈ c, x.av.dep ≤ 1000) (heo : e.op = 19) (hgood : badOp e.op e.kids.length e.names.length = false) (hn : SizeOf.sizeOf e ≤ n + 1) (hl : e.fine A) (hr : Rk q c w g) (he : InX w e cs) :
    Calls Tryd.prog 10 #[.pointer (some ⟨g, 0, none⟩), .agg cs.toArray] w (ValErr (e.ev q c).1 (e.ev q c).2 w) := by
  have HXe := Lib.hid he
  rw [Exp.ev_def q c e]
  have hkn : ∀ x ∈ e.kids, SizeOf.sizeOf x ≤ n := fun x hx => by have := e.kid_size hx; omega
  have hkl : ∀ x ∈ e.kids, x.fine A := (Exp.fine_iff.1 hl).2.2
  have hvd : e.v.dep ≤ 1000000 := (Exp.fine_iff.1 hl).2.1
  obtain ⟨eo, ev, en, eks, ens⟩ := e
  obtain ⟨lk, lb, ln, ls, lt, lu, lA, ll, lc, lB, lm, ld, eK, ec, eN, ed, hcs, _, hev, hek, hen⟩ := Exp.At.shape he
  obtain rfl : cs = [.int .i64 eo, .int .i64 lk, .bool lb, .int .i64 ln, .string ls, .string lt, .string lu, .slice lA ll lc, .slice lB lm ld, .string en, .slice eK eks.length ec, .slice eN ens.length ed] := hcs
  have hev : InW w ev [.int .i64 lk, .bool lb, .int .i64 ln, .string ls, .string lt, .string lu, .slice lA ll lc, .slice lB lm ld] := hev
  have hek : expR.RowsAt (fun b => b < w.heap.size) w eks (.slice eK eks.length ec) := hek
  have hen : StrsAt (fun b => b < w.heap.size) w ens (.slice eN ens.length ed) := hen
  have HN : Hid (∀ x ∈ eks, SizeOf.sizeOf x ≤ n) := Lib.hid hkn
  have HL : Hid (∀ x ∈ eks, x.fine A) := Lib.hid hkl
  have HVd : Hid (ev.dep ≤ 1000000) := Lib.hid hvd
  have HEv := Lib.hid hev
  have HEk := Lib.hid hek
  have HEn := Lib.hid hen
  have HRk := Lib.hid hr
  have IH := Lib.hid ih
  obtain ⟨res, hres⟩ : ∃ res, evOp q c eo ev en ens (eks.map (Exp.ev q c)) = res := ⟨_, rfl⟩
  rw [show evOp q c (Exp.mk eo ev en eks ens).op (Exp.mk eo ev en eks ens).v (Exp.mk eo ev en eks ens).name (Exp.mk eo ev en eks ens).names ((Exp.mk eo ev en eks ens).kids.map (Exp.ev q c)) = res from hres]
  have HD := Lib.hid hres
  obtain rfl : eo = 19 := heo
  have hgood : badOp 19 eks.length ens.length = false := hgood
  obtain ⟨p0, p1, ps, px⟩ := heapA2 w (.cells #[.int .i64 19, .int .i64 lk, .bool lb, .int .i64 ln, .string ls, .string lt, .string lu, .slice lA ll lc, .slice lB lm ld, .string en, .slice eK eks.length ec, .slice eN ens.length ed] 31) (.cells zeroCells.toArray 28)
  have HE0 := Lib.hid p0
  have HR0 := Lib.hid p1
  have HX0 := Lib.hid px
  clear p0 p1 ps px
  obtain ⟨⟨l, er⟩, hall⟩ : ∃ r, allV (eks.map (Exp.ev q c)) = r := ⟨_, rfl⟩
  have hlen : l.length ≤ eks.length := by
    have := allV_le (eks.map (Exp.ev q c)); rw [hall] at this; simpa using this
  have hkl0 : eks.length ≤ LIM := by obtain ⟨_, _, eq0, ⟨hk0, _, _⟩, _⟩ := hek; exact hk0
  have hdep : Val.deps l ≤ 1000 := by have := all_dep (D := 1000) (by omega) (q := q) hcd eks; rw [hall] at this; exact this
  have hD2 : res = if er ≠ 0 then no er else (Val.mk 5 false 0 ByteArray.empty ByteArray.empty ByteArray.empty l []).canon := by
    rw [← hres]; unfold evOp; rw [if_neg (by simpa using hgood), hall]; simp
  have HD2 := Lib.hid hD2
  have ha := allE_ok ih eks g ((w.alloc (.cells #[.int .i64 19, .int .i64 lk, .bool lb, .int .i64 ln, .string ls, .string lt, .string lu, .slice lA ll lc, .slice lB lm ld, .string en, .slice eK eks.length ec, .slice eN ens.length ed] 31)).alloc (.cells zeroCells.toArray 28)) (.slice eK eks.length ec) HN.out HL.out (hr.ext HX0.out) ((hek.alike (Alike.of_ext HX0.out fun _ h => h)).mono fun b hb => Nat.lt_of_lt_of_le hb HX0.out.size)
  rw [hall] at ha
  have HAll := Lib.hid ha
  have HLe : Hid (l.length ≤ LIM) := Lib.hid (Nat.le_trans hlen hkl0)
  have HDep := Lib.hid hdep
  clear hgood hlen hkl0 hall hdep hD2 ha hcd
  have HK0 := Lib.hid (kidsE_ok 19 ((w.alloc (.cells #[.int .i64 19, .int .i64 lk, .bool lb, .int .i64 ln, .string ls, .string lt, .string lu, .slice lA ll lc, .slice lB lm ld, .string en, .slice eK eks.length ec, .slice eN ens.length ed] 31)).alloc (.cells zeroCells.toArray 28)))
  clear hn hl hr he hev hek hen ih hres hkn hkl hvd
  go_enter Tryd.func10, Tryd.ntmps10
  go_wp2_with fail
  refine HK0.out.mono ?_
  rintro e1 w1 ⟨rfl, rfl⟩
  rw [show arity 19 = -1 from rfl]

  go_wp2_with fail
  refine HAll.out.mono ?_
  rintro e2 w2 ⟨v, rfl, ⟨xs, hown, hfl⟩, hx2⟩
  have HX2 := Lib.hid (HX0.out.trans hx2)
  have HR2 := Lib.hid ((hx2.block _ (Blk_lt HR0.out)).trans HR0.out)
  have HE2 := Lib.hid ((hx2.block _ (Blk_lt HE0.out)).trans HE0.out)
  have Hlow : Hid (w.heap.size + 2 ≤ w2.heap.size) := Lib.hid (by have := Blk_lt HR2.out; omega)
  have c0 : w2.cell? ⟨w.heap.size, 0, none⟩ = some (.int .i64 19) := cell_of_row _ _ 0 _ _ _ HE2.out
  have c11 : w2.cell? ⟨w.heap.size, 11, none⟩ = some (.slice eN ens.length ed) := cell_of_row _ _ 11 _ _ _ HE2.out
  have hvals : ValsAt (fun b => b < w2.heap.size) w2 l v := own_vals hown hfl HLe.out (fun b hb => hb.2.1) (fun b hb => (hown.lt b hb).2)
  obtain ⟨A, cap, rfl, hv1, hv2⟩ := id hvals
  have HVals := Lib.hid hvals
  clear hown hfl hx2 HX0 HR0 HE0 HAll hvals hv1 hv2
  by_cases h0 : er = 0
  case neg =>
    have t0 : (er != 0) = true := by simpa using h0
    have hh : res = (.zero, er) := by rw [HD2.out, if_pos h0]; rfl
    subst hh
    clear h0 c0 c11
    go_wp2_with ((with_reducible refine at_store ?_; refine wpList_store_cells rfl 28 _ _ rfl (w.heap.size + 1) 0 rfl zeroCells rfl Tryd.size27 rfl 28 zeroCells.toArray HR2.out (by simp [zeroCells]) zero_one ?_))
    exact bodyPost_ret (v := .tuple #[.agg (show List Value from zeroCells).toArray, .int .i64 er]) (results_cell Tryd.results10 rfl Tryd.agg27 Tryd.size27 rfl (cellsAt_setRow HR2.out (by simp [zeroCells]))) rfl ⟨zeroCells, rfl, Val.zero_at _ _, HX2.out.setRow (by omega) _⟩
  subst h0
  have HD3 : Hid (res = (Val.mk 5 false 0 ByteArray.empty ByteArray.empty ByteArray.empty l []).canon) := Lib.hid (by rw [HD2.out, if_neg (by simp)])
  have HC := Lib.hid (canon_okP (Val.mk 5 false 0 ByteArray.empty ByteArray.empty ByteArray.empty l []) (fun b => b < w2.heap.size) w2 [.int .i64 5, .bool false, .int .i64 0, .string ByteArray.empty, .string ByteArray.empty, .string ByteArray.empty, .slice A l.length cap, .slice none 0 0] (by have := HDep.out; simp [Val.dep]; omega) (fun _ h => h) (Val.col_at 5 (by unfold I64; omega) HVals.out ⟨none, 0, rfl, by simp, by simp, by simp, by simp, by simp⟩))
  clear c11
  go_wp2_with (first | fail)
  refine (HC.out).mono ?_
  clear c0
  rintro e9 w9 ⟨cv, rfl, hv, hx9⟩
  have hh : res = (Val.mk 5 false 0 ByteArray.empty ByteArray.empty ByteArray.empty l []).canon := HD3.out
  rw [← hh] at hv ⊢
  obtain ⟨z, ez⟩ := res
  obtain ⟨zk, zb, zn, zs, zt, zu, zi, zm⟩ := z
  obtain ⟨zA, zc, zB, zd, rfl⟩ := hv.opened
  have HX9 := Lib.hid (HX2.out.trans hx9)
  have HXr := Lib.hid (Ext.refl w9)
  have HR9 := Lib.hid ((hx9.block _ (Blk_lt HR2.out)).trans HR2.out)
  have HV9 := Lib.hid hv
  clear hv hx9 hh
  go_wp2_with ((with_reducible refine at_store ?_; refine wpList_store_cells rfl 28 _ _ rfl (w.heap.size + 1) 0 rfl [.int .i64 zk, .bool zb, .int .i64 zn, .string zs, .string zt, .string zu, .slice zA zi.length zc, .slice zB zm.length zd] rfl Tryd.size27 rfl 28 zeroCells.toArray HR9.out (by simp [zeroCells]) HV9.out.one ?_))
  exact bodyPost_ret (v := .tuple #[.agg (show List Value from [.int .i64 zk, .bool zb, .int .i64 zn, .string zs, .string zt, .string zu, .slice zA zi.length zc, .slice zB zm.length zd]).toArray, .int .i64 ez]) (results_cell Tryd.results10 rfl Tryd.agg27 Tryd.size27 rfl (cellsAt_setRow HR9.out (by simp [zeroCells]))) rfl ⟨[.int .i64 zk, .bool zb, .int .i64 zn, .string zs, .string zt, .string zu, .slice zA zi.length zc, .slice zB zm.length zd], rfl, ret_at HV9.out HXr.out (by have := Hlow.out; omega) (by have := Hlow.out; omega) _, HX9.out.setRow (by omega) _⟩
end Go.Proofs.YtebfoimbdljbmaaDoor
