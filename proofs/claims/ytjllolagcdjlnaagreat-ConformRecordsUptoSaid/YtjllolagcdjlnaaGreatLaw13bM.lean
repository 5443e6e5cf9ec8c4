/-
  ConformRecords: what the statement's own function answers. The conditions: none.
-/
import Derived.Test.YtjllolagcdjlnaaGreatAwk13M
import Derived.Test.YtjllolagcdjlnaaGreatConRM
import Derived.Test.YtjllolagcdjlnaaGreatReg14M
import Derived.Test.YtjllolagcdjlnaaGreatStageTM
namespace Go.Proofs.YtjllolagcdjlnaaGreat
open Go.RowKit

/-- a row of the call's own, of things that hold no memory -/
def OwnP {α : Type} (R : Rep α) (T : TypeId) (base : Nat) (W : World) (v : Value) (l : List α) : Prop := ∃ xs, W.ownsRow base T R.size v l.length xs ∧ R.Flat (fun _ => False) W l xs
theorem OwnP.nil {α : Type} {R : Rep α} {T : TypeId} {base : Nat} {W : World} : OwnP R T base W (.slice none 0 0) [] := ⟨[], World.ownsRow_nil _ _ _ _, rfl⟩
theorem OwnP.apart {α : Type} {R : Rep α} {T : TypeId} {base : Nat} {W W' : World} {v : Value} {l : List α} {r : Option Nat} (h : OwnP R T base W v l) (k : GrownBy W W' r) (hr : ∀ b, v.ownBlock = some b → r ≠ some b) : OwnP R T base W' v l := by
  obtain ⟨xs, h1, h2⟩ := h
  exact ⟨xs, ownsRow_apart h1 k hr, h2.alike fun _ hb => hb.elim⟩
theorem OwnP.ext {α : Type} {R : Rep α} {T : TypeId} {base : Nat} {W W' : World} {v : Value} {l : List α} (h : OwnP R T base W v l) (k : Ext W W') : OwnP R T base W' v l := by
  obtain ⟨xs, h1, h2⟩ := h
  exact ⟨xs, ownsRow_ext h1 k, h2.alike fun _ hb => hb.elim⟩
theorem OwnP.shape {α : Type} {R : Rep α} {T : TypeId} {base : Nat} {W : World} {v : Value} {l : List α} (h : OwnP R T base W v l) : ∃ A c, v = .slice A l.length c := by
  obtain ⟨xs, h1, _⟩ := h
  exact own_shape h1
theorem OwnP.rows {α : Type} {R : Rep α} {T : TypeId} {base : Nat} {W : World} {v : Value} {l : List α} (h : OwnP R T base W v l) (hl : l.length ≤ LIM) : R.RowsAt (fun b => b < W.heap.size) W l v := by
  obtain ⟨xs, h1, h2⟩ := h
  exact own_rows h1 h2 hl (fun _ hb => hb.elim) fun b hb => (h1.lt b hb).2
theorem OwnP.types {α β : Type} {R : Rep α} {R' : Rep β} {T T' : TypeId} {base : Nat} {W : World} {v u : Value} {l : List α} {m : List β} (h : OwnP R T base W v l) (k : OwnP R' T' base W u m) (ht : T ≠ T') {b : Nat} (hv : v.ownBlock = some b) (hu : u.ownBlock = some b) : False := by
  obtain ⟨xs, h1, _⟩ := h
  obtain ⟨ys, k1, _⟩ := k
  exact row_types h1 k1 ht hv hu
theorem lst8c {α : Type} {l : List α} (h : l.length = 8) : ∃ a0 a1 a2 a3 a4 a5 a6 a7, l = [a0, a1, a2, a3, a4, a5, a6, a7] := by
  match l, h with
  | [a0, a1, a2, a3, a4, a5, a6, a7], _ => exact ⟨a0, a1, a2, a3, a4, a5, a6, a7, rfl⟩
theorem TwoInv.grown1 {w3 w4 : World} {R : Value} (h : TwoInv w3 R R w4) : GrownBy w3 w4 R.ownBlock :=
  ⟨⟨h.os, h.tape, h.output, h.size, fun b hb hne => h.block b hb (fun e => hne e.symm) (fun e => hne e.symm)⟩, h.drawn⟩
theorem and3 {x q : Int} {i : Nat} (h : bits .and .u16 (x / 2 ^ i) 3 = q) (h0 : 0 ≤ x) (h1 : x ≤ 65535) : 0 ≤ q ∧ q ≤ 3 := by
  have hp : (0 : Int) < 2 ^ i := Int.pow_pos (by omega)
  have a0 : 0 ≤ x / 2 ^ i := Int.ediv_nonneg h0 (Int.le_of_lt hp)
  have a1 : x / 2 ^ i ≤ x := Int.ediv_le_self _ h0
  rw [u16_and _ _ a0 (by omega) (by omega) (by omega)] at h
  have := Nat.and_le_right (n := (x / 2 ^ i).toNat) (m := (3 : Int).toNat)
  have h3 : (3 : Int).toNat = 3 := rfl
  omega
theorem plainC_one (k : Int) : ∀ u ∈ ([.int .i64 k, .bool true, .int .i64 0, .string ⟨#[]⟩, .string ⟨#[]⟩, .string ⟨#[]⟩, .slice none 0 0, .slice none 0 0] : List Value), u.oneCell' = true := by
  intro u hu
  simp only [List.mem_cons, List.not_mem_nil, or_false] at hu
  rcases hu with rfl | rfl | rfl | rfl | rfl | rfl | rfl | rfl <;> rfl
theorem plain_at {k : Int} (h1 : 0 ≤ k) (h2 : k ≤ 8) {S : Nat → Prop} {w : World} : Val.At S w (.mk k true 0 ByteArray.empty ByteArray.empty ByteArray.empty [] []) [.int .i64 k, .bool true, .int .i64 0, .string ByteArray.empty, .string ByteArray.empty, .string ByteArray.empty, .slice none 0 0, .slice none 0 0] := by
  unfold Val.At
  refine ⟨none, 0, .slice none 0 0, rfl, ⟨⟨by omega, by omega⟩, ⟨by omega, by omega⟩, ?_, ?_, ?_⟩, ⟨by rw [LIM_eq]; simp, by simp, by simp⟩, by simp, none, 0, rfl, by rw [LIM_eq]; simp, by simp, by simp, by simp, by simp⟩ <;> (rw [maxLen_eq]; decide)
def n4 : List ByteArray := [⟨#[97]⟩, ⟨#[98]⟩, ⟨#[99]⟩, ⟨#[100]⟩]
theorem n4_nodup : n4.Nodup := by decide +kernel
theorem mem_next {l : List ByteArray} {i : Nat} {x : ByteArray} (h : ∀ n ∈ l, n ∈ n4.take i) (hx : n4[i]? = some x) : ∀ n ∈ l ++ [x], n ∈ n4.take (i + 1) := fun n hn => by
  rw [take_next hx]
  rcases List.mem_append.1 hn with hn | hn
  · exact List.mem_append.2 (.inl (h n hn))
  · exact List.mem_append.2 (.inr hn)
theorem nodup_next {l : List ByteArray} {i : Nat} {x : ByteArray} (hd : l.Nodup) (h : ∀ n ∈ l, n ∈ n4.take i) (hx : n4[i]? = some x) : (l ++ [x]).Nodup := by
  rw [(List.perm_append_singleton x l).nodup_iff, List.nodup_cons]
  refine ⟨fun hm => ?_, hd⟩
  obtain ⟨j, hj⟩ := List.mem_iff_getElem?.1 (h x hm)
  rw [List.getElem?_take] at hj
  split at hj
  · rename_i hji
    obtain ⟨h1, e1⟩ := List.getElem?_eq_some_iff.1 hj
    obtain ⟨h2, e2⟩ := List.getElem?_eq_some_iff.1 hx
    have := (List.getElem_inj (h₀ := h1) (h₁ := h2) n4_nodup).1 (by rw [e1, e2])
    omega
  · cases hj
def plainV (x : Val) : Prop := ∃ k : Int, 1 ≤ k ∧ k ≤ 3 ∧ x = .mk k true 0 ByteArray.empty ByteArray.empty ByteArray.empty [] []
def plainA (a : Atr) : Prop := ∃ k : Int, (k = 3 ∨ k = 4 ∨ k = 5 ∨ k = 1) ∧ a.ty = .mk k ByteArray.empty [] []
/-- the value's box -/
def boxV (I Nv : Value) : Array Value := #[.int .i64 6, .bool false, .int .i64 0, .string ByteArray.empty, .string ByteArray.empty, .string ByteArray.empty, I, Nv]
def boxT (Tv : Value) : Array Value := #[.int .i64 8, .string ByteArray.empty, .slice none 0 0, Tv]
/-- what is made so far -/
structure Rec13 (g i : Nat) (wr : World) (I Nv Tv : Value) (nl : List ByteArray) (il : List Val) (al : List Atr) : Prop where
  bv : wr.heap[g]? = some (.cells (boxV I Nv) 35 (0, 0))
  bt : wr.heap[g + 1]? = some (.cells (boxT Tv) 57 (0, 0))
  bn : wr.heap[g + 2]? = some (.cells (n4.map Value.string).toArray 9 (0, 0))
  oi : OwnP valR 35 (g + 3) wr I il
  on : OwnP strR 9 (g + 3) wr Nv nl
  oa : OwnP atrR 83 (g + 3) wr Tv al
  nd : nl.Nodup
  nm : ∀ n ∈ nl, n ∈ n4.take i
  nle : nl.length ≤ i
  ale : al.length ≤ i
  pv : ∀ x ∈ il, plainV x
  pa : ∀ a ∈ al, plainA a

theorem plain_ones {al : List Atr} (h : ∀ a ∈ al, plainA a) : (Ty.mk 8 ByteArray.empty [] al).ones = true := by
  have : ∀ l : List Atr, (∀ a ∈ l, plainA a) → Atr.onesL l = true := fun l => by
    induction l with
    | nil => intro _; simp [Atr.onesL]
    | cons a r ih =>
      intro h
      obtain ⟨k, hk, e⟩ := h a (by simp)
      obtain ⟨n, t, o⟩ := a
      subst e
      have h7 : k ≠ 7 := by rcases hk with rfl | rfl | rfl | rfl <;> decide
      simp [Atr.onesL, Atr.ones1, Ty.ones, Ty.onesL, h7, ih fun a ha => h a (by simp [ha])]
  simp [Ty.ones, Ty.onesL, this al h]
theorem plain_dep (nl : List ByteArray) {il : List Val} (h : ∀ x ∈ il, plainV x) : (Val.mk 6 false 0 ByteArray.empty ByteArray.empty ByteArray.empty il nl).dep ≤ 2 := by
  have : Val.deps il ≤ 1 := Val.deps_le fun x hx => by
    obtain ⟨k, h1, h3, rfl⟩ := h x hx
    simp [Val.dep, show k ≠ 5 by omega, show k ≠ 6 by omega]
  simp only [Val.dep]
  simp; omega
theorem plain_canon {nl : List ByteArray} {il : List Val} (h : ∀ x ∈ il, plainV x) (hd : nl.Nodup) (hl : nl.length = il.length) (h4 : il.length ≤ 4) : (Val.mk 6 false 0 ByteArray.empty ByteArray.empty ByteArray.empty il nl).canon.2 = 0 := by
  have h1 : ∀ x ∈ il, x.can.2 = 0 := fun x hx => by
    obtain ⟨k, h1, h3, rfl⟩ := h x hx
    unfold Val.can
    rcases (by omega : k = 1 ∨ k = 2 ∨ k = 3) with rfl | rfl | rfl <;> rfl
  have hc : (Val.cans il).2 = 0 := by rw [Val.cans_eq h1]
  have hdp := plain_dep nl h
  unfold Val.canon
  rw [if_neg (by omega), Val.can6, if_neg (by simp [hl]), if_neg (by simp [hc]), if_neg (by omega)]
  rcases record_cases nl (Val.cans il).1 with ⟨_, e⟩ | ⟨e, _⟩
  · rw [e]
  · exact absurd hd e
theorem Val.recB_at {S : Nat → Prop} {w : World} {l : List Val} {names : List ByteArray} {v nv : Value} (h : ValsAt S w l v) (hn : StrsAt S w names nv) : Val.At S w (.mk 6 false 0 empty empty empty l names) [.int .i64 6, .bool false, .int .i64 0, .string ByteArray.empty, .string ByteArray.empty, .string ByteArray.empty, v, nv] := by
  obtain ⟨A, cap, rfl, h3, h4⟩ := h
  have h0 : empty.size ≤ maxLen := by rw [maxLen_eq]; decide
  unfold Val.At
  exact ⟨A, cap, _, rfl, ⟨⟨by omega, by omega⟩, ⟨by omega, by omega⟩, h0, h0, h0⟩, h3, h4, hn⟩
theorem byte_in13 {n : Int} (h : (Lit.int .u8 n).wf = true) : 0 ≤ n ∧ n ≤ 255 := by
  simpa [Lit.wf, IntKind.min, IntKind.max, IntKind.signed, IntKind.bits] using h
theorem word_in13 {n : Int} (h : (Lit.int .u16 n).wf = true) : 0 ≤ n ∧ n ≤ 65535 := by
  simpa [Lit.wf, IntKind.min, IntKind.max, IntKind.signed, IntKind.bits] using h
theorem rec_next {g i : Nat} {wr : World} {I Nv Tv : Value} {nl : List ByteArray} {il : List Val} {al : List Atr} (h : Rec13 g i wr I Nv Tv nl il al) (hi : i < 4) : Rec13 g (i + 1) wr I Nv Tv nl il al :=
  { h with
    nm := fun n hn => by
      obtain ⟨x, hx⟩ : ∃ x, n4[i]? = some x := ⟨_, List.getElem?_eq_getElem (by simpa [n4] using hi)⟩
      rw [take_next hx]
      exact List.mem_append.2 (.inl (h.nm n hn))
    nle := Nat.le_succ_of_le h.nle
    ale := Nat.le_succ_of_le h.ale }

set_option maxRecDepth 100000 in
set_option maxHeartbeats 8000000 in
theorem conformRecords_walk (x0 x1 x2 x3 : Int) (W : World) (h0 : (Lit.int .u8 x0).wf = true) (h1 : (Lit.int .u16 x1).wf = true) (h2 : (Lit.int .u8 x2).wf = true) (h3 : (Lit.int .u8 x3).wf = true) :
    Calls Tryz.prog 14 #[.int .u8 x0, .int .u16 x1, .int .u8 x2, .int .u8 x3] W fun e W' => e = .returned (.bool true) ∧ Ext W W' := by
  obtain ⟨h00, h01⟩ := byte_in13 h0
  obtain ⟨h10, h11⟩ := word_in13 h1
  obtain ⟨h20, h21⟩ := byte_in13 h2
  obtain ⟨h30, h31⟩ := byte_in13 h3
  clear h0 h1 h2 h3
  go_enter Tryz.func14, Tryz.ntmps14
  go_wp2_with fail
  refine (awake13_ok _).mono ?_
  rintro e w1 ⟨rfl, hx⟩
  have HX1 := Lib.hid hx
  clear hx
  go_wp2_with fail
  obtain ⟨hb0, hb1, hb2, hsz, hx⟩ := heapT3 w1 (.cells (boxV (.slice none 0 0) (.slice none 0 0)) 35) (.cells (boxT (.slice none 0 0)) 57) (.cells (n4.map Value.string).toArray 9)
  have HR0 : Hid (Rec13 w1.heap.size 0 (((w1.alloc (.cells (boxV (.slice none 0 0) (.slice none 0 0)) 35)).alloc (.cells (boxT (.slice none 0 0)) 57)).alloc (.cells (n4.map Value.string).toArray 9)) (.slice none 0 0) (.slice none 0 0) (.slice none 0 0) [] [] []) := Lib.hid
    ⟨hb0, hb1, hb2, OwnP.nil, OwnP.nil, OwnP.nil, List.nodup_nil, by simp, by simp, by simp, by simp, by simp⟩
  have HXL := Lib.hid (HX1.out.trans hx)
  obtain ⟨iS, hiS, hzS, hsS, hbS⟩ := info_parts Tryz.info9
  obtain ⟨iV, hiV, hzV, hsV, hbV⟩ := info_parts Tryz.info27
  clear hb0 hb1 hb2 hsz hx
  go_loopw [13] (fun i' wr => ∃ i : Nat, i ≤ 4 ∧ i' = .int .i64 i ∧ Hid (Ext W wr) ∧ Hid (∃ I Nv Tv nl il al, Rec13 w1.heap.size i wr I Nv Tv nl il al ∧ il.length = nl.length)) (fun i' _ => 4 - (intOf i').toNat)
  case atStart => exact ⟨0, by omega, rfl, HXL, Lib.hid ⟨_, _, _, _, _, _, HR0.out, rfl⟩⟩
  case round =>
    clear HR0 HXL
    obtain ⟨i, hi, rfl, HX, HM⟩ := hrel
    obtain ⟨I, Nv, Tv, nl, il, al, hm, hil⟩ := HM.out
    have HR := Lib.hid hm
    have HIl := Lib.hid hil
    clear hm hil HM
    by_cases hlt : i < 4
    · obtain ⟨nm, hnm⟩ : ∃ nm, n4[i]? = some nm := ⟨_, List.getElem?_eq_getElem (by simpa [n4] using hlt)⟩
      have Hnm := Lib.hid hnm
      clear hnm
      go_wp2_with fail
      · have hnle := HR.out.nle
        obtain ⟨xs, o1, o2⟩ := HR.out.on
        have HO1 := Lib.hid o1
        have HO2 := Lib.hid o2
        have hgl : w1.heap.size + 3 ≤ wr.heap.size := Blk_lt HR.out.bn
        have HGl := Lib.hid hgl
        clear o1 o2 hgl
        refine one_region (w3 := wr) (B := w1.heap.size + 3) (T := 9) (TS := 33) (size := 1) (bytes := 16) (R := Nv) (k := nl.length) (xs0 := xs) (news := [.string nm])
          (vals := [.pointer (some ⟨w1.heap.size, 7, none⟩), Nv, .slice (some ⟨w1.heap.size + 1 + 1, 0, none⟩) 4 4, .int .i64 i, .pointer (some ⟨w1.heap.size + 1 + 1, 0 + i * 1, none⟩), .string nm]) (it := iS) (z := .string ByteArray.empty) 8 32 5 1 (by kernel_rfl) rfl (by kernel_rfl) (fun i hi => ?_)
          Tryz.underlying33 hiS hzS hsS hbS rfl (by decide) (by simp) (by simp) rfl ⟨_, rfl, rfl⟩ ⟨_, rfl, rfl⟩ ⟨by kernel_rfl, by kernel_rfl, by kernel_rfl⟩ (fun W => Tryz.build25 nm W) rfl (by intro u hu; simp at hu; subst hu; rfl) (by simp) HO1.out HGl.out (by rw [maxLen_eq]; omega) (by omega) (fun j op hj ho ys V hiv hold hvat Q' K hK => ?_) ?_
        · rcases (by omega : i = 0 ∨ i = 1 ∨ i = 2 ∨ i = 3 ∨ i = 4 ∨ i = 5 ∨ i = 6 ∨ i = 7) with rfl | rfl | rfl | rfl | rfl | rfl | rfl | rfl <;> exact ⟨_, rfl, rfl, rfl⟩
        · have hNb : ∀ b, Nv.ownBlock = some b → w1.heap.size + 3 ≤ b := fun b hb => (HO1.out.lt b hb).1
          have cO : ∀ g j u, g < w1.heap.size + 3 → wr.cell? ⟨g, j, none⟩ = some u → V.cell? ⟨g, j, none⟩ = some u := fun g j u hg h => (World.cell?_of_block (a := ⟨g, j, none⟩) (hiv.block g (by have := HGl.out; omega) (fun e => by have := hNb _ e; omega) (fun e => by have := hNb _ e; omega))).trans h
          rcases (by simp at hj; omega : j = 0 ∨ j = 1 ∨ j = 2 ∨ j = 3 ∨ j = 4 ∨ j = 5) with rfl | rfl | rfl | rfl | rfl | rfl <;> obtain rfl := Option.some.inj ho
          · exact wp_value (exec_field _ _ _ rfl (hold 10 (by omega)) (Tryz.field27 w1.heap.size).1) hK
          · exact wp_value (exec_load_one _ _ rfl w1.heap.size 7 (hvat 0 (by simp) (by kernel_rfl)) Tryz.agg25 (cO _ 7 Nv (by omega) (by rw [cell_of_row _ _ _ _ _ _ HR.out.bv]; rfl))) hK
          · exact wp_value (exec_move rfl (hold 12 (by omega))) hK
          · exact wp_value (exec_move rfl (hold 13 (by omega))) hK
          · exact wp_value (exec_index rfl (hvat 2 (by simp) (by kernel_rfl)) (hvat 3 (by simp) (by kernel_rfl)) Tryz.elemS Tryz.elemSs (by omega)) hK
          · exact wp_value (exec_load_one _ _ rfl (w1.heap.size + 1 + 1) (0 + i * 1) (hvat 4 (by simp) (by kernel_rfl)) Tryz.agg9 (cO _ _ _ (by omega) (by rw [cell_of_row _ _ _ _ _ _ HR.out.bn]; simp [Hnm.out]))) hK
        intro ys w4 hyl hinv hys hlong
        obtain ⟨y0, y1, y2, y3, y4, y5, y6, y7, rfl⟩ := lst8c hyl
        clear hyl hys
        simp only [List.length_cons, List.length_nil, List.getD_cons_succ, List.getD_cons_zero] at hlong
        obtain ⟨E7, q7, rfl⟩ := own_shape hlong.1
        have hNb : ∀ b, Nv.ownBlock = some b → w1.heap.size + 3 ≤ b := fun b hb => (HO1.out.lt b hb).1
        have hg4 := hinv.grown1
        have hB4 : ∀ g o, g < w1.heap.size + 3 → wr.heap[g]? = some o → w4.heap[g]? = some o := fun g o hg h => (hg4.block g (Blk_lt h) (fun e => by have := hNb _ e.symm; omega)).trans h
        have hbv4 := hB4 _ _ (by omega) HR.out.bv
        have hbt4 := hB4 _ _ (by omega) HR.out.bt
        have hbn4 := hB4 _ _ (by omega) HR.out.bn
        have hoi4 := HR.out.oi.apart hg4 fun b hb e => HR.out.oi.types HR.out.on (by decide) hb e
        have hoa4 := HR.out.oa.apart hg4 fun b hb e => HR.out.oa.types HR.out.on (by decide) hb e
        have hon4 : OwnP strR 9 (w1.heap.size + 3) w4 (.slice E7 (nl.length + 1) q7) (nl ++ [nm]) := ⟨_, by simpa [strR] using hlong.1, Rep.Flat.snoc (R := strR) ⟨rfl, by
          have := List.mem_of_getElem? Hnm.out
          simp only [n4, List.mem_cons, List.not_mem_nil, or_false] at this
          rcases this with rfl | rfl | rfl | rfl <;> (rw [maxLen_eq]; decide)⟩ (HO2.out.alike fun _ hb => hb.elim)⟩
        have hx4 := ext_apart HX.out hg4 fun b e => by have := hNb b e; have := HX1.out.size; omega
        have HBv4 := Lib.hid hbv4
        have HBt4 := Lib.hid hbt4
        have HBn4 := Lib.hid hbn4
        have HOi4 := Lib.hid hoi4
        have HOa4 := Lib.hid hoa4
        have HOn4 := Lib.hid hon4
        have HX4 := Lib.hid hx4
        clear hNb hB4 hbv4 hbt4 hbn4 hoi4 hoa4 hon4 hx4 hlong hinv hg4 HO1 HO2 HGl
        simp only [List.take, List.drop, putAll]
        go_wp2_with (refine wpList_store_slice rfl 33 _ _ rfl w1.heap.size 7 rfl E7 _ q7 rfl Tryz.sizeSs 35 _ HBv4.out (by simp [boxV]) ?_)
        intro w5 hO5 hg5
        have hO5 : w5.heap[w1.heap.size]? = some (.cells (boxV I (.slice E7 (nl.length + 1) q7)) 35 (0, 0)) := hO5
        have hbt5 := (hg5.block _ (Blk_lt HBt4.out) (fun e => by injection e with e; omega)).trans HBt4.out
        have hbn5 := (hg5.block _ (Blk_lt HBn4.out) (fun e => by injection e with e; omega)).trans HBn4.out
        have lo : ∀ {α : Type} {R : Rep α} {T : TypeId} {v : Value} {l : List α}, OwnP R T (w1.heap.size + 3) w4 v l → ∀ b, v.ownBlock = some b → some w1.heap.size ≠ some b := fun h b hb e => by
          obtain ⟨xs, h1, _⟩ := h
          injection e with e
          have := (h1.lt b hb).1
          omega
        have HBv5 := Lib.hid hO5
        have HBt5 := Lib.hid hbt5
        have HBn5 := Lib.hid hbn5
        have HOi5 := Lib.hid (HOi4.out.apart hg5 (lo HOi4.out))
        have HOa5 := Lib.hid (HOa4.out.apart hg5 (lo HOa4.out))
        have HOn5 := Lib.hid (HOn4.out.apart hg5 (lo HOn4.out))
        have HX5 := Lib.hid (ext_apart HX4.out hg5 fun b e => by injection e with e; have := HX1.out.size; omega)
        obtain ⟨Ia, ic, eI⟩ := HOi5.out.shape
        subst eI
        have c6 : w5.cell? ⟨w1.heap.size, 6, none⟩ = some (.slice Ia il.length ic) := cell_of_row _ _ 6 _ _ _ hO5
        have c7 : w5.frozen? ⟨w1.heap.size, 6, none⟩ = false := frozen_of_row _ _ _ _ _ hO5
        clear hO5 hg5 hbt5 hbn5 lo HBv4 HBt4 HBn4 HOi4 HOa4 HOn4 HX4
        obtain ⟨qa, hqa⟩ : ∃ qa, bits .and .u16 (x1 / 2 ^ (4 * i)) 3 = qa := ⟨_, rfl⟩
        have hqb := and3 hqa h10 h11
        obtain ⟨xi, o1, o2⟩ := HOi5.out
        have hil5 : il.length ≤ i := by have := HIl.out; omega
        have hg5 : w1.heap.size + 3 ≤ w5.heap.size := Blk_lt HBn5.out
        have HO1 := Lib.hid o1
        have HO2 := Lib.hid o2
        have HG5 := Lib.hid hg5
        clear o1 o2 hg5
        go_wp2_with (at_builtin; go_loud (refine wpList_append_at rfl (.tmp 42) (.tmp 53) 32 rfl (w1.heap.size + 3) 35 iV _ 8 120 Tryz.underlying32 hiV hzV hsV hbV rfl (by decide) _ il.length xi rfl (ownsRow_ext HO1.out ((Ext.refl w5).alloc _)) w5.heap.size 0 1 1 [.int .i64 (1 + qa % 3), .bool true, .int .i64 0, .string ⟨#[]⟩, .string ⟨#[]⟩, .string ⟨#[]⟩, .slice none 0 0, .slice none 0 0] rfl rfl (cellsAt_new _ _ rfl) (plainC_one _) (by rw [maxLen_eq]; omega) (by omega) (Nat.le_trans HG5.out ((Ext.refl w5).alloc _).size) ?_))
        -- REST
        intro v' w6 ho6 hg6 hb6
        have hIb : ∀ b, (Value.slice Ia il.length ic).ownBlock = some b → w1.heap.size + 3 ≤ b := fun b hb => (HO1.out.lt b hb).1
        have hx56 := (Ext.refl w5).alloc (.cells #[.int .i64 (1 + qa % 3), .bool true, .int .i64 0, .string ⟨#[]⟩, .string ⟨#[]⟩, .string ⟨#[]⟩, .slice none 0 0, .slice none 0 0] 35)
        have g56 := (GrownBy.of_ext _ hx56).trans hg6
        have hbv6 := (g56.block _ (Blk_lt HBv5.out) (fun e => by have := hIb _ e.symm; omega)).trans HBv5.out
        have hbt6 := (g56.block _ (Blk_lt HBt5.out) (fun e => by have := hIb _ e.symm; omega)).trans HBt5.out
        have hbn6 := (g56.block _ (Blk_lt HBn5.out) (fun e => by have := hIb _ e.symm; omega)).trans HBn5.out
        have hon6 := HOn5.out.apart g56 fun b hb e => HOn5.out.types HOi5.out (by decide) hb e
        have hoa6 := HOa5.out.apart g56 fun b hb e => HOa5.out.types HOi5.out (by decide) hb e
        obtain ⟨kv, hkv⟩ : ∃ kv : Int, 1 + qa % 3 = kv := ⟨_, rfl⟩
        have hk1 : 1 ≤ kv ∧ kv ≤ 3 := by omega
        rw [hkv] at ho6
        have hoi6 : OwnP valR 35 (w1.heap.size + 3) w6 v' (il ++ [Val.mk kv true 0 ByteArray.empty ByteArray.empty ByteArray.empty [] []]) := ⟨xi ++ [.int .i64 kv, .bool true, .int .i64 0, .string ⟨#[]⟩, .string ⟨#[]⟩, .string ⟨#[]⟩, .slice none 0 0, .slice none 0 0], by simpa [valR] using ho6, Rep.Flat.snoc (R := valR) (x := Val.mk kv true 0 ByteArray.empty ByteArray.empty ByteArray.empty [] []) (show valR.At _ _ _ _ from plain_at (by omega) (by omega)) (HO2.out.alike fun _ hb => hb.elim)⟩
        have hx6 := ext_apart HX5.out g56 fun b e => by have := hIb b e; have := HX1.out.size; omega
        have q0 : w6.cell? ⟨w1.heap.size, 6, none⟩ = some (.slice Ia il.length ic) := cell_of_row _ _ 6 _ _ _ hbv6
        have q1 : w6.frozen? ⟨w1.heap.size, 6, none⟩ = false := frozen_of_row _ _ _ _ _ hbv6
        have q2 : w1.heap.size < w6.heap.size := Blk_lt hbv6
        obtain ⟨Ja, jc, eJ⟩ := hoi6.shape
        rw [List.length_append, List.length_singleton] at eJ
        subst eJ
        have HKv := Lib.hid (show plainV (Val.mk kv true 0 ByteArray.empty ByteArray.empty ByteArray.empty [] []) from ⟨kv, hk1.1, hk1.2, rfl⟩)
        have HBv6 := Lib.hid hbv6
        have HBt6 := Lib.hid hbt6
        have HBn6 := Lib.hid hbn6
        have HOn6 := Lib.hid hon6
        have HOa6 := Lib.hid hoa6
        have HOi6 := Lib.hid hoi6
        have HX6 := Lib.hid hx6
        clear hk1 hIb hx56 g56 hbv6 hbt6 hbn6 hon6 hoa6 hoi6 hx6 ho6 hg6 hb6 c6 c7 hkv hqb hqa HO1 HO2 HG5
        have hgs := GrownBy.setCell w6 w1.heap.size 6 (.slice Ja (il.length + 1) jc)
        have lo : ∀ {α : Type} {R : Rep α} {T : TypeId} {v : Value} {l : List α}, OwnP R T (w1.heap.size + 3) w6 v l → ∀ b, v.ownBlock = some b → some w1.heap.size ≠ some b := fun h b hb e => by
          obtain ⟨xs, h1, _⟩ := h
          injection e with e
          have := (h1.lt b hb).1
          omega
        have HR1 : Hid (Rec13 w1.heap.size (i + 1) (w6.setCell ⟨w1.heap.size, 6, none⟩ (.slice Ja (il.length + 1) jc)) (.slice Ja (il.length + 1) jc) (.slice E7 (nl.length + 1) q7) Tv (nl ++ [nm]) (il ++ [Val.mk kv true 0 ByteArray.empty ByteArray.empty ByteArray.empty [] []]) al) := Lib.hid
          ⟨heap_setCell_at HBv6.out 6 _, (hgs.block _ (Blk_lt HBt6.out) (fun e => by injection e with e; omega)).trans HBt6.out, (hgs.block _ (Blk_lt HBn6.out) (fun e => by injection e with e; omega)).trans HBn6.out,
            HOi6.out.apart hgs (lo HOi6.out), HOn6.out.apart hgs (lo HOn6.out), HOa6.out.apart hgs (lo HOa6.out), nodup_next HR.out.nd HR.out.nm Hnm.out, mem_next HR.out.nm Hnm.out, by have := HR.out.nle; simp; omega, by have := HR.out.ale; omega,
            fun x hx => by rcases List.mem_append.1 hx with hx | hx
                           · exact HR.out.pv x hx
                           · obtain rfl : x = _ := by simpa using hx
                             exact HKv.out, HR.out.pa⟩
        have HXz := Lib.hid (ext_apart HX6.out hgs fun b e => by injection e with e; have := HX1.out.size; omega)
        have HIl1 : Hid ((il ++ [Val.mk kv true 0 ByteArray.empty ByteArray.empty ByteArray.empty [] []]).length = (nl ++ [nm]).length) := Lib.hid (by have := HIl.out; simp; omega)
        clear hgs lo HBv6 HBt6 HBn6 HOn6 HOa6 HOi6 HX6 HBv5 HBt5 HBn5 HOi5 HOa5 HOn5 HX5
        have hale := HR.out.ale
        have HAle0 := Lib.hid hale
        clear hale
        go_wp2_with fail
        · clear q0 q1 q2
          generalize hwz : w6.setCell ⟨w1.heap.size, 6, none⟩ (.slice Ja (il.length + 1) jc) = wz at HR1 HXz ⊢
          clear hwz
          obtain ⟨q2, hq2⟩ : ∃ q2, bits .and .u16 (x1 / 2 ^ (4 * i + 2)) 3 = q2 := ⟨_, rfl⟩
          obtain ⟨o2, ho2⟩ : ∃ o2, bits .and .u8 (x3 / 2 ^ i) 1 = o2 := ⟨_, rfl⟩
          obtain ⟨qn, hqn, hqn3⟩ : ∃ qn : Nat, q2 = qn ∧ qn ≤ 3 := by
            have := and3 hq2 h10 h11
            exact ⟨q2.toNat, by omega, by omega⟩
          subst hqn
          obtain ⟨kd, hkd⟩ : ∃ kd : Int, ([3, 4, 5, 1] : List Int)[qn]? = some kd := ⟨_, List.getElem?_eq_getElem (by simp; omega)⟩
          obtain ⟨zs, p1, p2⟩ := HR1.out.oa
          have hgz : w1.heap.size + 3 ≤ wz.heap.size := Blk_lt HR1.out.bn
          have HKd := Lib.hid hkd
          have HQ2 := Lib.hid hq2
          have HO2 := Lib.hid ho2
          have HP1 := Lib.hid p1
          have HP2 := Lib.hid p2
          have HGz := Lib.hid hgz
          have hi3 : i ≤ 3 := by omega
          obtain ⟨iA, hiA, hzA, hsA, hbA⟩ := info_parts Tryz.infoAtr
          have hTb : ∀ b, Tv.ownBlock = some b → w1.heap.size + 3 ≤ b ∧ b < wz.heap.size := fun b hb => HP1.out.lt b hb
          have HTb := Lib.hid hTb
          clear hkd hq2 ho2 p1 p2 hgz hTb
          refine staged_regionT 26 [6, 24, 25] [.pointer (some ⟨w1.heap.size + 1, 3, none⟩), Tv, .slice (some ⟨w1.heap.size + 1 + 1, 0, none⟩) 4 4, .int .i64 i, .pointer (some ⟨w1.heap.size + 1 + 1, 0 + i * 1, none⟩), .string nm, undef, .int .u16 x1, .int .i64 i, .int .i64 (4 * i), .int .i64 (4 * i + 2), .int .u64 (4 * i + 2), .int .u16 (x1 / 2 ^ (4 * i + 2)), .int .u16 qn, .pointer (some ⟨wz.heap.size, 0 + qn * 1, none⟩), .int .i64 kd,
              .agg #[.int .i64 kd, .string ByteArray.empty, .slice none 0 0, .slice none 0 0], .int .u8 x3, .int .i64 i, .int .u64 i, .int .u8 (x3 / 2 ^ i), .int .u8 o2, .bool (o2 == 1), .agg #[.string nm, .int .i64 kd, .string ByteArray.empty, .slice none 0 0, .slice none 0 0, .bool (o2 == 1)], undef, undef] (Stg14 wz Tv (w1.heap.size + 3) al.length zs [.string nm, .int .i64 kd, .string ByteArray.empty, .slice none 0 0, .slice none 0 0, .bool (o2 == 1)]) (by kernel_rfl) (by kernel_rfl) (by kernel_rfl) (by decide) (by decide) (fun k i' j' hk1 hk2 => by
              have hk4 : k + 1 < 3 := by simpa using (List.getElem?_eq_some_iff.1 hk2).1
              rcases (by omega : k = 0 ∨ k = 1) with rfl | rfl <;> obtain rfl := Option.some.inj hk1 <;> obtain rfl := Option.some.inj hk2
              · exact ⟨[23, 16, 15, 14], by kernel_rfl⟩
              · exact ⟨[], by kernel_rfl⟩)
            (show Stg14 wz Tv (w1.heap.size + 3) al.length zs [.string nm, .int .i64 kd, .string ByteArray.empty, .slice none 0 0, .slice none 0 0, .bool (o2 == 1)] [] wz.drew from rfl) (fun j op hj hn ho vs V a hdone hS hold hat => ?_) (fun k j op hk ho vs V a hvl hS hold hat Q' K hK => ?_) ?_
          · have cO : ∀ g o u, g < w1.heap.size + 3 → wz.cell? ⟨g, o, none⟩ = some u → V.cell? ⟨g, o, none⟩ = some u := fun g o u hg h => (World.cell?_of_block (a := ⟨g, o, none⟩) (hS.grown.block g (by have := HGz.out; omega) (fun e => by have := HTb.out _ e.symm; omega))).trans h
            rcases (by simp at hn; omega : j = 0 ∨ j = 1 ∨ j = 2 ∨ j = 3 ∨ j = 4 ∨ j = 5 ∨ j = 7 ∨ j = 8 ∨ j = 9 ∨ j = 10 ∨ j = 11 ∨ j = 12 ∨ j = 13 ∨ j = 14 ∨ j = 15 ∨ j = 16 ∨ j = 17 ∨ j = 18 ∨ j = 19 ∨ j = 20 ∨ j = 21 ∨ j = 22 ∨ j = 23) with rfl | rfl | rfl | rfl | rfl | rfl | rfl | rfl | rfl | rfl | rfl | rfl | rfl | rfl | rfl | rfl | rfl | rfl | rfl | rfl | rfl | rfl | rfl <;> obtain rfl := Option.some.inj ho
            · exact exec_field _ _ _ rfl (hold 11 (by kernel_rfl)) (Tryz.fieldTA (w1.heap.size + 1))
            · exact exec_load_one _ _ rfl (w1.heap.size + 1) 3 (hat 0 62 (by omega) (by kernel_rfl) (by kernel_rfl)) Tryz.aggSA (cO _ 3 Tv (by omega) (by rw [cell_of_row _ _ _ _ _ _ HR1.out.bt]; rfl))
            · exact exec_move rfl (hold 12 (by kernel_rfl))
            · exact exec_move rfl (hold 13 (by kernel_rfl))
            · exact exec_index (i := i) rfl (hat 2 64 (by omega) (by kernel_rfl) (by kernel_rfl)) (hat 3 65 (by omega) (by kernel_rfl) (by kernel_rfl)) Tryz.elemS Tryz.elemSs (by omega)
            · exact exec_load_one _ _ rfl (w1.heap.size + 1 + 1) (0 + i * 1) (hat 4 66 (by omega) (by kernel_rfl) (by kernel_rfl)) Tryz.agg9 (cO _ _ _ (by omega) (by rw [cell_of_row _ _ _ _ _ _ HR1.out.bn]; simp [Hnm.out]))
            · exact exec_move rfl (hold 1 (by kernel_rfl))
            · exact exec_move rfl (hold 13 (by kernel_rfl))
            · exact exec_bin rfl rfl (hat 8 70 (by omega) (by kernel_rfl) (by kernel_rfl)) (Tryz.mul4 i hi3 _ _ _)
            · exact exec_bin rfl (hat 9 71 (by omega) (by kernel_rfl) (by kernel_rfl)) rfl (Tryz.add2 i hi3 _ _ _)
            · exact exec_cv rfl (hat 10 72 (by omega) (by kernel_rfl) (by kernel_rfl)) (Tryz.cvA i hi3 _)
            · exact exec_bin rfl (hat 7 69 (by omega) (by kernel_rfl) (by kernel_rfl)) (hat 11 73 (by omega) (by kernel_rfl) (by kernel_rfl)) (Tryz.sh16 x1 i hi3 _ _ _)
            · exact exec_bin rfl (hat 12 74 (by omega) (by kernel_rfl) (by kernel_rfl)) rfl (Tryz.an16 _ _ _ _ _ HQ2.out)
            · have h0 := hdone 0 6 [] rfl (by kernel_rfl)
              have hI := (hS.int h0 fun b hb => (HTb.out b hb).2).1
              exact exec_indexU (i := qn) rfl ((hat 6 68 (by omega) (by kernel_rfl) (by kernel_rfl)).trans hI) (hat 13 75 (by omega) (by kernel_rfl) (by kernel_rfl)) Tryz.elemIn Tryz.elemIns (by omega)
            · have h0 := hdone 0 6 [14] rfl (by kernel_rfl)
              have hI := (hS.int h0 fun b hb => (HTb.out b hb).2).2
              exact exec_load_one _ _ rfl wz.heap.size (0 + qn * 1) (hat 14 76 (by omega) (by kernel_rfl) (by kernel_rfl)) Tryz.aggIn (by
                rw [cell_of_row _ _ _ _ _ _ hI]
                have := HKd.out
                rcases (by omega : qn = 0 ∨ qn = 1 ∨ qn = 2 ∨ qn = 3) with rfl | rfl | rfl | rfl <;> (cases this; rfl))
            · exact exec_bld rfl (by have k1 := hat 15 77 (by omega) (by kernel_rfl) (by kernel_rfl); simp only [List.map_toArray, List.map_cons, List.map_nil, k1]; rfl) (Tryz.bldT kd _)
            · exact exec_move rfl (hold 3 (by kernel_rfl))
            · exact exec_move rfl (hold 13 (by kernel_rfl))
            · exact exec_cv rfl (hat 18 80 (by omega) (by kernel_rfl) (by kernel_rfl)) (Tryz.cvB i hi3 _)
            · exact exec_bin rfl (hat 17 79 (by omega) (by kernel_rfl) (by kernel_rfl)) (hat 19 81 (by omega) (by kernel_rfl) (by kernel_rfl)) (Tryz.sh8 x3 i hi3 _ _ _)
            · exact exec_bin rfl (hat 20 82 (by omega) (by kernel_rfl) (by kernel_rfl)) rfl (Tryz.an8 _ _ _ _ _ HO2.out)
            · exact exec_bin rfl (hat 21 83 (by omega) (by kernel_rfl) (by kernel_rfl)) rfl (Tryz.eq8 o2 _ _ _)
            · exact exec_bld rfl (by have k1 := hat 5 67 (by omega) (by kernel_rfl) (by kernel_rfl); have k2 := hat 16 78 (by omega) (by kernel_rfl) (by kernel_rfl); have k3 := hat 22 84 (by omega) (by kernel_rfl) (by kernel_rfl); simp only [List.map_toArray, List.map_cons, List.map_nil, k1, k2, k3]; rfl) (Tryz.bldA kd nm (o2 == 1) _)
          · have hk4 : k < 3 := by simpa using (List.getElem?_eq_some_iff.1 hk).1
            rcases (by omega : k = 0 ∨ k = 1 ∨ k = 2) with rfl | rfl | rfl <;> obtain rfl := Option.some.inj hk <;> obtain rfl := Option.some.inj ho
            · obtain rfl := List.eq_nil_of_length_eq_zero hvl
              obtain rfl : V = wz.drew := hS
              exact wp_bslice rfl (by simp only [List.map_toArray, List.map_cons, List.map_nil]; rfl) (Tryz.buildI _) (hK _ _ ⟨rfl, rfl⟩)
            · match vs, hvl, hS with
              | [s0], _, hS =>
                obtain ⟨rfl, rfl⟩ := hS
                exact wp_bslice rfl (by have k1 := hat 23 85 (by omega) (by kernel_rfl) (by kernel_rfl); simp only [List.map_toArray, List.map_cons, List.map_nil, k1]; rfl) (Tryz.buildA _ _ _ _ _ _ _) (hK _ _ ⟨rfl, by rw [drew_alloc], rfl⟩)
            · match vs, hvl, hS with
              | [s0, s1], _, hS =>
                obtain ⟨rfl, rfl, rfl⟩ := hS
                have hx2 : Ext wz ((wz.drew.alloc (.cells ints4 (Tryz.prog.elem 81))).alloc (.cells [.string nm, .int .i64 kd, .string ByteArray.empty, .slice none 0 0, .slice none 0 0, .bool (o2 == 1)].toArray 83)) := ((ext_drew wz).alloc _).alloc _
                exact wp_append_at14 rfl (.tmp 63) (.tmp 86) 55 rfl (w1.heap.size + 3) 83 iA _ 6 96 Tryz.underlying55 hiA hzA hsA hbA rfl (by decide) Tv al.length zs (hat 1 63 (by omega) (by kernel_rfl) (by kernel_rfl)) (ownsRow_ext HP1.out hx2) (wz.heap.size + 1) 0 1 1 [.string nm, .int .i64 kd, .string ByteArray.empty, .slice none 0 0, .slice none 0 0, .bool (o2 == 1)] (hat 24 86 (by omega) (by kernel_rfl) (by kernel_rfl)) rfl (by rw [← drew_alloc wz (.cells ints4 (Tryz.prog.elem 81))]; exact cellsAt_new _ _ rfl) (plainC_two _ _ _) (by have := HAle0.out; rw [maxLen_eq]; omega) (by have := HAle0.out; omega) (Nat.le_trans HGz.out hx2.size) (fun v' w' h1 h2 h3 => hK _ _ ⟨rfl, h1, h2⟩)
          · intro xs vs V hxl hvl hS hxs
            have hg7 := hS.grown
            match vs, hvl, hS with
            | [s0, s1, s2], _, hS =>
              obtain ⟨rfl, hs2, _⟩ := hS
              obtain ⟨k0, k1, k2, k3, k4, k5, k6, k7, k8, k9, k10, k11, k12, k13, k14, k15, k16, k17, k18, k19, k20, k21, k22, k23, k24, k25, rfl⟩ := lst26 hxl
              have e25 : k25 = s2 := hxs 25 (by omega)
              obtain ⟨E9, q9, e9⟩ := own_shape hs2
              subst e9
              subst e25
              clear hxs hxl
              have hB7 : ∀ g o, g < w1.heap.size + 3 → wz.heap[g]? = some o → V.heap[g]? = some o := fun g o hg h => (hg7.block g (Blk_lt h) (fun e => by have := HTb.out _ e.symm; omega)).trans h
              have hnz : nm.size ≤ maxLen := by
                have := List.mem_of_getElem? Hnm.out
                simp only [n4, List.mem_cons, List.not_mem_nil, or_false] at this
                rcases this with rfl | rfl | rfl | rfl <;> (rw [maxLen_eq]; decide)
              have hkd4 : kd = 3 ∨ kd = 4 ∨ kd = 5 ∨ kd = 1 := by
                have := List.mem_of_getElem? HKd.out
                simpa using this
              have HBv7 := Lib.hid (hB7 _ _ (by omega) HR1.out.bv)
              have HBt7 := Lib.hid (hB7 _ _ (by omega) HR1.out.bt)
              have HBn7 := Lib.hid (hB7 _ _ (by omega) HR1.out.bn)
              have HOi7 := Lib.hid (HR1.out.oi.apart hg7 fun b hb e => HR1.out.oi.types HR1.out.oa (by decide) hb e)
              have HOn7 := Lib.hid (HR1.out.on.apart hg7 fun b hb e => HR1.out.on.types HR1.out.oa (by decide) hb e)
              have hoa7 : OwnP atrR 83 (w1.heap.size + 3) V (.slice E9 (al.length + 1) q9) (al ++ [.mk nm (.mk kd ByteArray.empty [] []) (o2 == 1)]) := ⟨zs ++ [.string nm, .int .i64 kd, .string ByteArray.empty, .slice none 0 0, .slice none 0 0, .bool (o2 == 1)], by simpa [atrR] using hs2, Rep.Flat.snoc (R := atrR) (x := Atr.mk nm (.mk kd ByteArray.empty [] []) (o2 == 1)) (show atrR.At _ _ _ _ from atr_at hnz (by omega)) (HP2.out.alike fun _ hb => hb.elim)⟩
              have HOa7 := Lib.hid hoa7
              have HX7 := Lib.hid (ext_apart HXz.out hg7 fun b e => by have := HTb.out b e; have := HX1.out.size; omega)
              have HPA := Lib.hid (show plainA (.mk nm (.mk kd ByteArray.empty [] []) (o2 == 1)) from ⟨kd, hkd4, rfl⟩)
              clear hB7 hnz hkd4 hoa7 hs2 hg7 HTb HKd HQ2 HO2 HP1 HP2 HGz hi3 hiA hzA hsA hbA
              simp only [List.take, List.drop, putAll]
              go_wp2_with (refine wpList_store_slice rfl 55 _ _ rfl (w1.heap.size + 1) 3 rfl E9 _ q9 rfl Tryz.sizeSA 57 _ HBt7.out (by simp [boxT]) ?_)
              intro w8 hO8 hg8
              have hO8 : w8.heap[w1.heap.size + 1]? = some (.cells (boxT (.slice E9 (al.length + 1) q9)) 57 (0, 0)) := hO8
              have lo8 : ∀ {α : Type} {R : Rep α} {T : TypeId} {v : Value} {l : List α}, OwnP R T (w1.heap.size + 3) V v l → ∀ b, v.ownBlock = some b → some (w1.heap.size + 1) ≠ some b := fun h b hb e => by
                obtain ⟨xs, h1, _⟩ := h
                injection e with e
                have := (h1.lt b hb).1
                omega
              have HR2 := Lib.hid (Rec13.mk (g := w1.heap.size) (i := i + 1) (wr := w8) (al := al ++ [Atr.mk nm (.mk kd ByteArray.empty [] []) (o2 == 1)]) ((hg8.block _ (Blk_lt HBv7.out) (fun e => by injection e with e; omega)).trans HBv7.out) hO8 ((hg8.block _ (Blk_lt HBn7.out) (fun e => by injection e with e; omega)).trans HBn7.out)
                (HOi7.out.apart hg8 (lo8 HOi7.out)) (HOn7.out.apart hg8 (lo8 HOn7.out)) (HOa7.out.apart hg8 (lo8 HOa7.out)) HR1.out.nd HR1.out.nm HR1.out.nle (by have := HAle0.out; simp; omega) HR1.out.pv
                (fun x hx => by rcases List.mem_append.1 hx with hx | hx
                                · exact HR1.out.pa x hx
                                · obtain rfl : x = _ := by simpa using hx
                                  exact HPA.out))
              have HX8 := Lib.hid (ext_apart HX7.out hg8 fun b e => by injection e with e; have := HX1.out.size; omega)
              clear hO8 hg8 lo8 HBv7 HBt7 HBn7 HOi7 HOn7 HOa7 HX7 HPA
              go_wp2_with fail
              go_roundw
              case rel => exact ⟨i + 1, by omega, by go_num, HX8, Lib.hid ⟨_, _, _, _, _, _, HR2.out, HIl1.out⟩⟩
              case measure => simp [intOf]; omega
        · go_roundw
          case rel => exact ⟨i + 1, by omega, by go_num, HXz, Lib.hid ⟨_, _, _, _, _, _, HR1.out, HIl1.out⟩⟩
          case measure => simp [intOf]; omega
      · have HR1 : Hid (Rec13 w1.heap.size (i + 1) wr I Nv Tv nl il al) := Lib.hid (rec_next HR.out hlt)
        have HXz := HX
        have HIl1 := HIl
        have HAle0 := Lib.hid HR.out.ale
        obtain ⟨q2, hq2⟩ : ∃ q2, bits .and .u16 (x1 / 2 ^ (4 * i + 2)) 3 = q2 := ⟨_, rfl⟩
        obtain ⟨o2, ho2⟩ : ∃ o2, bits .and .u8 (x3 / 2 ^ i) 1 = o2 := ⟨_, rfl⟩
        obtain ⟨qn, hqn, hqn3⟩ : ∃ qn : Nat, q2 = qn ∧ qn ≤ 3 := by
          have := and3 hq2 h10 h11
          exact ⟨q2.toNat, by omega, by omega⟩
        subst hqn
        obtain ⟨kd, hkd⟩ : ∃ kd : Int, ([3, 4, 5, 1] : List Int)[qn]? = some kd := ⟨_, List.getElem?_eq_getElem (by simp; omega)⟩
        obtain ⟨zs, p1, p2⟩ := HR1.out.oa
        have hgz : w1.heap.size + 3 ≤ wr.heap.size := Blk_lt HR1.out.bn
        have HKd := Lib.hid hkd
        have HQ2 := Lib.hid hq2
        have HO2 := Lib.hid ho2
        have HP1 := Lib.hid p1
        have HP2 := Lib.hid p2
        have HGz := Lib.hid hgz
        have hi3 : i ≤ 3 := by omega
        obtain ⟨iA, hiA, hzA, hsA, hbA⟩ := info_parts Tryz.infoAtr
        have hTb : ∀ b, Tv.ownBlock = some b → w1.heap.size + 3 ≤ b ∧ b < wr.heap.size := fun b hb => HP1.out.lt b hb
        have HTb := Lib.hid hTb
        clear hkd hq2 ho2 p1 p2 hgz hTb
        refine staged_regionT 26 [6, 24, 25] [.pointer (some ⟨w1.heap.size + 1, 3, none⟩), Tv, .slice (some ⟨w1.heap.size + 1 + 1, 0, none⟩) 4 4, .int .i64 i, .pointer (some ⟨w1.heap.size + 1 + 1, 0 + i * 1, none⟩), .string nm, undef, .int .u16 x1, .int .i64 i, .int .i64 (4 * i), .int .i64 (4 * i + 2), .int .u64 (4 * i + 2), .int .u16 (x1 / 2 ^ (4 * i + 2)), .int .u16 qn, .pointer (some ⟨wr.heap.size, 0 + qn * 1, none⟩), .int .i64 kd,
            .agg #[.int .i64 kd, .string ByteArray.empty, .slice none 0 0, .slice none 0 0], .int .u8 x3, .int .i64 i, .int .u64 i, .int .u8 (x3 / 2 ^ i), .int .u8 o2, .bool (o2 == 1), .agg #[.string nm, .int .i64 kd, .string ByteArray.empty, .slice none 0 0, .slice none 0 0, .bool (o2 == 1)], undef, undef] (Stg14 wr Tv (w1.heap.size + 3) al.length zs [.string nm, .int .i64 kd, .string ByteArray.empty, .slice none 0 0, .slice none 0 0, .bool (o2 == 1)]) (by kernel_rfl) (by kernel_rfl) (by kernel_rfl) (by decide) (by decide) (fun k i' j' hk1 hk2 => by
            have hk4 : k + 1 < 3 := by simpa using (List.getElem?_eq_some_iff.1 hk2).1
            rcases (by omega : k = 0 ∨ k = 1) with rfl | rfl <;> obtain rfl := Option.some.inj hk1 <;> obtain rfl := Option.some.inj hk2
            · exact ⟨[23, 16, 15, 14], by kernel_rfl⟩
            · exact ⟨[], by kernel_rfl⟩)
          (show Stg14 wr Tv (w1.heap.size + 3) al.length zs [.string nm, .int .i64 kd, .string ByteArray.empty, .slice none 0 0, .slice none 0 0, .bool (o2 == 1)] [] wr.drew from rfl) (fun j op hj hn ho vs V a hdone hS hold hat => ?_) (fun k j op hk ho vs V a hvl hS hold hat Q' K hK => ?_) ?_
        · have cO : ∀ g o u, g < w1.heap.size + 3 → wr.cell? ⟨g, o, none⟩ = some u → V.cell? ⟨g, o, none⟩ = some u := fun g o u hg h => (World.cell?_of_block (a := ⟨g, o, none⟩) (hS.grown.block g (by have := HGz.out; omega) (fun e => by have := HTb.out _ e.symm; omega))).trans h
          rcases (by simp at hn; omega : j = 0 ∨ j = 1 ∨ j = 2 ∨ j = 3 ∨ j = 4 ∨ j = 5 ∨ j = 7 ∨ j = 8 ∨ j = 9 ∨ j = 10 ∨ j = 11 ∨ j = 12 ∨ j = 13 ∨ j = 14 ∨ j = 15 ∨ j = 16 ∨ j = 17 ∨ j = 18 ∨ j = 19 ∨ j = 20 ∨ j = 21 ∨ j = 22 ∨ j = 23) with rfl | rfl | rfl | rfl | rfl | rfl | rfl | rfl | rfl | rfl | rfl | rfl | rfl | rfl | rfl | rfl | rfl | rfl | rfl | rfl | rfl | rfl | rfl <;> obtain rfl := Option.some.inj ho
          · exact exec_field _ _ _ rfl (hold 11 (by kernel_rfl)) (Tryz.fieldTA (w1.heap.size + 1))
          · exact exec_load_one _ _ rfl (w1.heap.size + 1) 3 (hat 0 62 (by omega) (by kernel_rfl) (by kernel_rfl)) Tryz.aggSA (cO _ 3 Tv (by omega) (by rw [cell_of_row _ _ _ _ _ _ HR1.out.bt]; rfl))
          · exact exec_move rfl (hold 12 (by kernel_rfl))
          · exact exec_move rfl (hold 13 (by kernel_rfl))
          · exact exec_index (i := i) rfl (hat 2 64 (by omega) (by kernel_rfl) (by kernel_rfl)) (hat 3 65 (by omega) (by kernel_rfl) (by kernel_rfl)) Tryz.elemS Tryz.elemSs (by omega)
          · exact exec_load_one _ _ rfl (w1.heap.size + 1 + 1) (0 + i * 1) (hat 4 66 (by omega) (by kernel_rfl) (by kernel_rfl)) Tryz.agg9 (cO _ _ _ (by omega) (by rw [cell_of_row _ _ _ _ _ _ HR1.out.bn]; simp [Hnm.out]))
          · exact exec_move rfl (hold 1 (by kernel_rfl))
          · exact exec_move rfl (hold 13 (by kernel_rfl))
          · exact exec_bin rfl rfl (hat 8 70 (by omega) (by kernel_rfl) (by kernel_rfl)) (Tryz.mul4 i hi3 _ _ _)
          · exact exec_bin rfl (hat 9 71 (by omega) (by kernel_rfl) (by kernel_rfl)) rfl (Tryz.add2 i hi3 _ _ _)
          · exact exec_cv rfl (hat 10 72 (by omega) (by kernel_rfl) (by kernel_rfl)) (Tryz.cvA i hi3 _)
          · exact exec_bin rfl (hat 7 69 (by omega) (by kernel_rfl) (by kernel_rfl)) (hat 11 73 (by omega) (by kernel_rfl) (by kernel_rfl)) (Tryz.sh16 x1 i hi3 _ _ _)
          · exact exec_bin rfl (hat 12 74 (by omega) (by kernel_rfl) (by kernel_rfl)) rfl (Tryz.an16 _ _ _ _ _ HQ2.out)
          · have h0 := hdone 0 6 [] rfl (by kernel_rfl)
            have hI := (hS.int h0 fun b hb => (HTb.out b hb).2).1
            exact exec_indexU (i := qn) rfl ((hat 6 68 (by omega) (by kernel_rfl) (by kernel_rfl)).trans hI) (hat 13 75 (by omega) (by kernel_rfl) (by kernel_rfl)) Tryz.elemIn Tryz.elemIns (by omega)
          · have h0 := hdone 0 6 [14] rfl (by kernel_rfl)
            have hI := (hS.int h0 fun b hb => (HTb.out b hb).2).2
            exact exec_load_one _ _ rfl wr.heap.size (0 + qn * 1) (hat 14 76 (by omega) (by kernel_rfl) (by kernel_rfl)) Tryz.aggIn (by
              rw [cell_of_row _ _ _ _ _ _ hI]
              have := HKd.out
              rcases (by omega : qn = 0 ∨ qn = 1 ∨ qn = 2 ∨ qn = 3) with rfl | rfl | rfl | rfl <;> (cases this; rfl))
          · exact exec_bld rfl (by have k1 := hat 15 77 (by omega) (by kernel_rfl) (by kernel_rfl); simp only [List.map_toArray, List.map_cons, List.map_nil, k1]; rfl) (Tryz.bldT kd _)
          · exact exec_move rfl (hold 3 (by kernel_rfl))
          · exact exec_move rfl (hold 13 (by kernel_rfl))
          · exact exec_cv rfl (hat 18 80 (by omega) (by kernel_rfl) (by kernel_rfl)) (Tryz.cvB i hi3 _)
          · exact exec_bin rfl (hat 17 79 (by omega) (by kernel_rfl) (by kernel_rfl)) (hat 19 81 (by omega) (by kernel_rfl) (by kernel_rfl)) (Tryz.sh8 x3 i hi3 _ _ _)
          · exact exec_bin rfl (hat 20 82 (by omega) (by kernel_rfl) (by kernel_rfl)) rfl (Tryz.an8 _ _ _ _ _ HO2.out)
          · exact exec_bin rfl (hat 21 83 (by omega) (by kernel_rfl) (by kernel_rfl)) rfl (Tryz.eq8 o2 _ _ _)
          · exact exec_bld rfl (by have k1 := hat 5 67 (by omega) (by kernel_rfl) (by kernel_rfl); have k2 := hat 16 78 (by omega) (by kernel_rfl) (by kernel_rfl); have k3 := hat 22 84 (by omega) (by kernel_rfl) (by kernel_rfl); simp only [List.map_toArray, List.map_cons, List.map_nil, k1, k2, k3]; rfl) (Tryz.bldA kd nm (o2 == 1) _)
        · have hk4 : k < 3 := by simpa using (List.getElem?_eq_some_iff.1 hk).1
          rcases (by omega : k = 0 ∨ k = 1 ∨ k = 2) with rfl | rfl | rfl <;> obtain rfl := Option.some.inj hk <;> obtain rfl := Option.some.inj ho
          · obtain rfl := List.eq_nil_of_length_eq_zero hvl
            obtain rfl : V = wr.drew := hS
            exact wp_bslice rfl (by simp only [List.map_toArray, List.map_cons, List.map_nil]; rfl) (Tryz.buildI _) (hK _ _ ⟨rfl, rfl⟩)
          · match vs, hvl, hS with
            | [s0], _, hS =>
              obtain ⟨rfl, rfl⟩ := hS
              exact wp_bslice rfl (by have k1 := hat 23 85 (by omega) (by kernel_rfl) (by kernel_rfl); simp only [List.map_toArray, List.map_cons, List.map_nil, k1]; rfl) (Tryz.buildA _ _ _ _ _ _ _) (hK _ _ ⟨rfl, by rw [drew_alloc], rfl⟩)
          · match vs, hvl, hS with
            | [s0, s1], _, hS =>
              obtain ⟨rfl, rfl, rfl⟩ := hS
              have hx2 : Ext wr ((wr.drew.alloc (.cells ints4 (Tryz.prog.elem 81))).alloc (.cells [.string nm, .int .i64 kd, .string ByteArray.empty, .slice none 0 0, .slice none 0 0, .bool (o2 == 1)].toArray 83)) := ((ext_drew wr).alloc _).alloc _
              exact wp_append_at14 rfl (.tmp 63) (.tmp 86) 55 rfl (w1.heap.size + 3) 83 iA _ 6 96 Tryz.underlying55 hiA hzA hsA hbA rfl (by decide) Tv al.length zs (hat 1 63 (by omega) (by kernel_rfl) (by kernel_rfl)) (ownsRow_ext HP1.out hx2) (wr.heap.size + 1) 0 1 1 [.string nm, .int .i64 kd, .string ByteArray.empty, .slice none 0 0, .slice none 0 0, .bool (o2 == 1)] (hat 24 86 (by omega) (by kernel_rfl) (by kernel_rfl)) rfl (by rw [← drew_alloc wr (.cells ints4 (Tryz.prog.elem 81))]; exact cellsAt_new _ _ rfl) (plainC_two _ _ _) (by have := HAle0.out; rw [maxLen_eq]; omega) (by have := HAle0.out; omega) (Nat.le_trans HGz.out hx2.size) (fun v' w' h1 h2 h3 => hK _ _ ⟨rfl, h1, h2⟩)
        · intro xs vs V hxl hvl hS hxs
          have hg7 := hS.grown
          match vs, hvl, hS with
          | [s0, s1, s2], _, hS =>
            obtain ⟨rfl, hs2, _⟩ := hS
            obtain ⟨k0, k1, k2, k3, k4, k5, k6, k7, k8, k9, k10, k11, k12, k13, k14, k15, k16, k17, k18, k19, k20, k21, k22, k23, k24, k25, rfl⟩ := lst26 hxl
            have e25 : k25 = s2 := hxs 25 (by omega)
            obtain ⟨E9, q9, e9⟩ := own_shape hs2
            subst e9
            subst e25
            clear hxs hxl
            have hB7 : ∀ g o, g < w1.heap.size + 3 → wr.heap[g]? = some o → V.heap[g]? = some o := fun g o hg h => (hg7.block g (Blk_lt h) (fun e => by have := HTb.out _ e.symm; omega)).trans h
            have hnz : nm.size ≤ maxLen := by
              have := List.mem_of_getElem? Hnm.out
              simp only [n4, List.mem_cons, List.not_mem_nil, or_false] at this
              rcases this with rfl | rfl | rfl | rfl <;> (rw [maxLen_eq]; decide)
            have hkd4 : kd = 3 ∨ kd = 4 ∨ kd = 5 ∨ kd = 1 := by
              have := List.mem_of_getElem? HKd.out
              simpa using this
            have HBv7 := Lib.hid (hB7 _ _ (by omega) HR1.out.bv)
            have HBt7 := Lib.hid (hB7 _ _ (by omega) HR1.out.bt)
            have HBn7 := Lib.hid (hB7 _ _ (by omega) HR1.out.bn)
            have HOi7 := Lib.hid (HR1.out.oi.apart hg7 fun b hb e => HR1.out.oi.types HR1.out.oa (by decide) hb e)
            have HOn7 := Lib.hid (HR1.out.on.apart hg7 fun b hb e => HR1.out.on.types HR1.out.oa (by decide) hb e)
            have hoa7 : OwnP atrR 83 (w1.heap.size + 3) V (.slice E9 (al.length + 1) q9) (al ++ [.mk nm (.mk kd ByteArray.empty [] []) (o2 == 1)]) := ⟨zs ++ [.string nm, .int .i64 kd, .string ByteArray.empty, .slice none 0 0, .slice none 0 0, .bool (o2 == 1)], by simpa [atrR] using hs2, Rep.Flat.snoc (R := atrR) (x := Atr.mk nm (.mk kd ByteArray.empty [] []) (o2 == 1)) (show atrR.At _ _ _ _ from atr_at hnz (by omega)) (HP2.out.alike fun _ hb => hb.elim)⟩
            have HOa7 := Lib.hid hoa7
            have HX7 := Lib.hid (ext_apart HXz.out hg7 fun b e => by have := HTb.out b e; have := HX1.out.size; omega)
            have HPA := Lib.hid (show plainA (.mk nm (.mk kd ByteArray.empty [] []) (o2 == 1)) from ⟨kd, hkd4, rfl⟩)
            clear hB7 hnz hkd4 hoa7 hs2 hg7 HTb HKd HQ2 HO2 HP1 HP2 HGz hi3 hiA hzA hsA hbA
            simp only [List.take, List.drop, putAll]
            go_wp2_with (refine wpList_store_slice rfl 55 _ _ rfl (w1.heap.size + 1) 3 rfl E9 _ q9 rfl Tryz.sizeSA 57 _ HBt7.out (by simp [boxT]) ?_)
            intro w8 hO8 hg8
            have hO8 : w8.heap[w1.heap.size + 1]? = some (.cells (boxT (.slice E9 (al.length + 1) q9)) 57 (0, 0)) := hO8
            have lo8 : ∀ {α : Type} {R : Rep α} {T : TypeId} {v : Value} {l : List α}, OwnP R T (w1.heap.size + 3) V v l → ∀ b, v.ownBlock = some b → some (w1.heap.size + 1) ≠ some b := fun h b hb e => by
              obtain ⟨xs, h1, _⟩ := h
              injection e with e
              have := (h1.lt b hb).1
              omega
            have HR2 := Lib.hid (Rec13.mk (g := w1.heap.size) (i := i + 1) (wr := w8) (al := al ++ [Atr.mk nm (.mk kd ByteArray.empty [] []) (o2 == 1)]) ((hg8.block _ (Blk_lt HBv7.out) (fun e => by injection e with e; omega)).trans HBv7.out) hO8 ((hg8.block _ (Blk_lt HBn7.out) (fun e => by injection e with e; omega)).trans HBn7.out)
              (HOi7.out.apart hg8 (lo8 HOi7.out)) (HOn7.out.apart hg8 (lo8 HOn7.out)) (HOa7.out.apart hg8 (lo8 HOa7.out)) HR1.out.nd HR1.out.nm HR1.out.nle (by have := HAle0.out; simp; omega) HR1.out.pv
              (fun x hx => by rcases List.mem_append.1 hx with hx | hx
                              · exact HR1.out.pa x hx
                              · obtain rfl : x = _ := by simpa using hx
                                exact HPA.out))
            have HX8 := Lib.hid (ext_apart HX7.out hg8 fun b e => by injection e with e; have := HX1.out.size; omega)
            clear hO8 hg8 lo8 HBv7 HBt7 HBn7 HOi7 HOn7 HOa7 HX7 HPA
            go_wp2_with fail
            go_roundw
            case rel => exact ⟨i + 1, by omega, by go_num, HX8, Lib.hid ⟨_, _, _, _, _, _, HR2.out, HIl1.out⟩⟩
            case measure => simp [intOf]; omega
      · have HR1 : Hid (Rec13 w1.heap.size (i + 1) wr I Nv Tv nl il al) := Lib.hid (rec_next HR.out hlt)
        go_roundw
        case rel => exact ⟨i + 1, by omega, by go_num, HX, Lib.hid ⟨_, _, _, _, _, _, HR1.out, HIl.out⟩⟩
        case measure => simp [intOf]; omega
    · obtain rfl : i = 4 := by omega
      have hnl4 : nl.length ≤ 4 := HR.out.nle
      have hil4 : il.length ≤ 4 := by have := HIl.out; omega
      have hal4 : al.length ≤ 4 := HR.out.ale
      have hva := Val.recB_at (valsAt_iff.2 (HR.out.oi.rows (by rw [LIM_eq]; omega))) (rows_strsAt (HR.out.on.rows (by rw [LIM_eq]; omega)))
      obtain ⟨Ia, ic, eI⟩ := HR.out.oi.shape
      obtain ⟨Na, nc, eN⟩ := HR.out.on.shape
      obtain ⟨Ta, tc, eT⟩ := HR.out.oa.shape
      subst eI eN eT
      have hta : Ty.At (fun b => b < wr.heap.size) wr (.mk 8 ByteArray.empty [] al) [.int .i64 8, .string ByteArray.empty, .slice none 0 0, .slice Ta al.length tc] := Ty.At.of ⟨by omega, by omega⟩ (by rw [maxLen_eq]; decide) (Rep.RowsAt.nil _ _) (HR.out.oa.rows (by rw [LIM_eq]; omega))
      have HVA := Lib.hid hva
      have HTA := Lib.hid hta
      have HOn := Lib.hid (plain_ones HR.out.pa)
      have HDp := Lib.hid (plain_dep nl HR.out.pv)
      have HCn := Lib.hid (plain_canon HR.out.pv HR.out.nd HIl.out.symm hil4)
      have HBv := Lib.hid (show wr.heap[w1.heap.size]? = some (.cells #[.int .i64 6, .bool false, .int .i64 0, .string ByteArray.empty, .string ByteArray.empty, .string ByteArray.empty, .slice Ia il.length ic, .slice Na nl.length nc] 35 (0, 0)) from HR.out.bv)
      have HBt := Lib.hid (show wr.heap[w1.heap.size + 1]? = some (.cells #[.int .i64 8, .string ByteArray.empty, .slice none 0 0, .slice Ta al.length tc] 57 (0, 0)) from HR.out.bt)
      clear hnl4 hil4 hal4 hva hta HR HIl
      go_wp2_with (refine wpList_load_cells rfl 35 _ rfl w1.heap.size 0 rfl Tryz.agg27 Tryz.size27 (cs := [.int .i64 6, .bool false, .int .i64 0, .string ByteArray.empty, .string ByteArray.empty, .string ByteArray.empty, .slice Ia il.length ic, .slice Na nl.length nc]) rfl (cells_of_row HBv.out) ?_)
      refine (canon_okR (.mk 6 false 0 ByteArray.empty ByteArray.empty ByteArray.empty il nl) _ wr [_, _, _, _, _, _, _, _] (by have := HDp.out; omega) (fun _ h => h) HVA.out).mono ?_
      rintro e w9 ⟨cw, rfl, hcw, hx⟩
      obtain ⟨k3, b3, n3, s3, ut3, ui3, A3, l3, c3, A4, l4, c4, rfl⟩ := hcw.shape
      have HX9 := Lib.hid (HX.out.trans hx)
      have HY9 := Lib.hid hx
      have HT9 := Lib.hid ((hx.block _ (Blk_lt HBt.out)).trans HBt.out)
      have HIs := Lib.hid (canon_is HCn.out)
      rw [HCn.out]
      generalize (Val.mk 6 false 0 ByteArray.empty ByteArray.empty ByteArray.empty il nl).canon.1 = x at *
      have HW : Hid (InW w9 x [.int .i64 k3, .bool b3, .int .i64 n3, .string s3, .string ut3, .string ui3, .slice A3 l3 c3, .slice A4 l4 c4]) := Lib.hid (hcw.mono fun b hb => hb.2)
      clear hcw hx HBv HBt HCn HVA HDp
      have hz : Ext w9 (w9.alloc (.cells #[.int .i64 k3, .bool b3, .int .i64 n3, .string s3, .string ut3, .string ui3, .slice A3 l3 c3, .slice A4 l4 c4] 35)) := (Ext.refl w9).alloc _
      have hn : (w9.alloc (.cells #[.int .i64 k3, .bool b3, .int .i64 n3, .string s3, .string ut3, .string ui3, .slice A3 l3 c3, .slice A4 l4 c4] 35)).heap[w9.heap.size]? = some (.cells #[.int .i64 k3, .bool b3, .int .i64 n3, .string s3, .string ut3, .string ui3, .slice A3 l3 c3, .slice A4 l4 c4] 35 (0, 0)) := heap_alloc_new _ _
      have HX10 := Lib.hid (HX9.out.trans hz)
      have HN10 := Lib.hid hn
      have HT10 := Lib.hid ((hz.block _ (Blk_lt HT9.out)).trans HT9.out)
      have HY10 := Lib.hid (HY9.out.trans hz)
      have HW10 := Lib.hid (HW.out.ext hz)
      obtain ⟨rb, hrb⟩ : ∃ rb, (Ty.mk 8 ByteArray.empty [] al).takes x = rb := ⟨_, rfl⟩
      have KA : Hid (∀ X, Ext (w9.alloc (.cells #[.int .i64 k3, .bool b3, .int .i64 n3, .string s3, .string ut3, .string ui3, .slice A3 l3 c3, .slice A4 l4 c4] 35)) X → Calls Tryz.prog 36 #[.agg #[.int .i64 k3, .bool b3, .int .i64 n3, .string s3, .string ut3, .string ui3, .slice A3 l3 c3, .slice A4 l4 c4], .agg #[.int .i64 8, .string ByteArray.empty, .slice none 0 0, .slice Ta al.length tc]] X fun e w' => e = .returned (.bool rb) ∧ Ext X w') := Lib.hid fun X hX => by
        have h := takes_ok _ x (Nat.le_refl _) HIs.out x (by simp) (.mk 8 ByteArray.empty [] al) (fun b => b < X.heap.size) X [.int .i64 k3, .bool b3, .int .i64 n3, .string s3, .string ut3, .string ui3, .slice A3 l3 c3, .slice A4 l4 c4] [.int .i64 8, .string ByteArray.empty, .slice none 0 0, .slice Ta al.length tc] (fun _ h => h) (HW10.out.ext hX) (Ty.At.mono (fun b hb => Nat.lt_of_lt_of_le hb (HY10.out.trans hX).size) _ _ (Ty.At.alike (Alike.of_ext (HY10.out.trans hX) fun _ h => h) _ _ HTA.out))
        rw [hrb] at h
        exact h
      have KB : Hid (∀ X, Ext (w9.alloc (.cells #[.int .i64 k3, .bool b3, .int .i64 n3, .string s3, .string ut3, .string ui3, .slice A3 l3 c3, .slice A4 l4 c4] 35)) X → Calls Tryz.prog 38 #[.agg #[.int .i64 k3, .bool b3, .int .i64 n3, .string s3, .string ut3, .string ui3, .slice A3 l3 c3, .slice A4 l4 c4], .agg #[.int .i64 8, .string ByteArray.empty, .slice none 0 0, .slice Ta al.length tc]] X fun e w' => e = .returned (.bool rb) ∧ Ext X w') := Lib.hid fun X hX => by
        have h := takesR_ok _ x (Nat.le_refl _) HIs.out x (by simp) (.mk 8 ByteArray.empty [] al) HOn.out (fun b => b < X.heap.size) X [.int .i64 k3, .bool b3, .int .i64 n3, .string s3, .string ut3, .string ui3, .slice A3 l3 c3, .slice A4 l4 c4] [.int .i64 8, .string ByteArray.empty, .slice none 0 0, .slice Ta al.length tc] (fun _ h => h) (HW10.out.ext hX) (Ty.At.mono (fun b hb => Nat.lt_of_lt_of_le hb (HY10.out.trans hX).size) _ _ (Ty.At.alike (Alike.of_ext (HY10.out.trans hX) fun _ h => h) _ _ HTA.out))
        rw [hrb] at h
        exact h
      have g0 := cell_regrown (show (w9.alloc (.cells #[.int .i64 k3, .bool b3, .int .i64 n3, .string s3, .string ut3, .string ui3, .slice A3 l3 c3, .slice A4 l4 c4] 35)).cell? ⟨w9.heap.size, 0, none⟩ = some (.int .i64 k3) from cell_of_row _ _ 0 _ _ _ HN10.out)
      have g1 := cell_regrown (show (w9.alloc (.cells #[.int .i64 k3, .bool b3, .int .i64 n3, .string s3, .string ut3, .string ui3, .slice A3 l3 c3, .slice A4 l4 c4] 35)).cell? ⟨w9.heap.size, 1, none⟩ = some (.bool b3) from cell_of_row _ _ 1 _ _ _ HN10.out)
      have g2 := cell_regrown (show (w9.alloc (.cells #[.int .i64 k3, .bool b3, .int .i64 n3, .string s3, .string ut3, .string ui3, .slice A3 l3 c3, .slice A4 l4 c4] 35)).cell? ⟨w9.heap.size, 2, none⟩ = some (.int .i64 n3) from cell_of_row _ _ 2 _ _ _ HN10.out)
      have g3 := cell_regrown (show (w9.alloc (.cells #[.int .i64 k3, .bool b3, .int .i64 n3, .string s3, .string ut3, .string ui3, .slice A3 l3 c3, .slice A4 l4 c4] 35)).cell? ⟨w9.heap.size, 3, none⟩ = some (.string s3) from cell_of_row _ _ 3 _ _ _ HN10.out)
      have g4 := cell_regrown (show (w9.alloc (.cells #[.int .i64 k3, .bool b3, .int .i64 n3, .string s3, .string ut3, .string ui3, .slice A3 l3 c3, .slice A4 l4 c4] 35)).cell? ⟨w9.heap.size, 4, none⟩ = some (.string ut3) from cell_of_row _ _ 4 _ _ _ HN10.out)
      have g5 := cell_regrown (show (w9.alloc (.cells #[.int .i64 k3, .bool b3, .int .i64 n3, .string s3, .string ut3, .string ui3, .slice A3 l3 c3, .slice A4 l4 c4] 35)).cell? ⟨w9.heap.size, 5, none⟩ = some (.string ui3) from cell_of_row _ _ 5 _ _ _ HN10.out)
      have g6 := cell_regrown (show (w9.alloc (.cells #[.int .i64 k3, .bool b3, .int .i64 n3, .string s3, .string ut3, .string ui3, .slice A3 l3 c3, .slice A4 l4 c4] 35)).cell? ⟨w9.heap.size, 6, none⟩ = some (.slice A3 l3 c3) from cell_of_row _ _ 6 _ _ _ HN10.out)
      have g7 := cell_regrown (show (w9.alloc (.cells #[.int .i64 k3, .bool b3, .int .i64 n3, .string s3, .string ut3, .string ui3, .slice A3 l3 c3, .slice A4 l4 c4] 35)).cell? ⟨w9.heap.size, 7, none⟩ = some (.slice A4 l4 c4) from cell_of_row _ _ 7 _ _ _ HN10.out)
      have t0 := cell_regrown (show (w9.alloc (.cells #[.int .i64 k3, .bool b3, .int .i64 n3, .string s3, .string ut3, .string ui3, .slice A3 l3 c3, .slice A4 l4 c4] 35)).cell? ⟨w1.heap.size + 1, 0, none⟩ = some (.int .i64 8) from cell_of_row _ _ 0 _ _ _ HT10.out)
      have t1 := cell_regrown (show (w9.alloc (.cells #[.int .i64 k3, .bool b3, .int .i64 n3, .string s3, .string ut3, .string ui3, .slice A3 l3 c3, .slice A4 l4 c4] 35)).cell? ⟨w1.heap.size + 1, 1, none⟩ = some (.string ByteArray.empty) from cell_of_row _ _ 1 _ _ _ HT10.out)
      have t2 := cell_regrown (show (w9.alloc (.cells #[.int .i64 k3, .bool b3, .int .i64 n3, .string s3, .string ut3, .string ui3, .slice A3 l3 c3, .slice A4 l4 c4] 35)).cell? ⟨w1.heap.size + 1, 2, none⟩ = some (.slice none 0 0) from cell_of_row _ _ 2 _ _ _ HT10.out)
      have t3 := cell_regrown (show (w9.alloc (.cells #[.int .i64 k3, .bool b3, .int .i64 n3, .string s3, .string ut3, .string ui3, .slice A3 l3 c3, .slice A4 l4 c4] 35)).cell? ⟨w1.heap.size + 1, 3, none⟩ = some (.slice Ta al.length tc) from cell_of_row _ _ 3 _ _ _ HT10.out)
      have erb : (rb == rb) = true := by simp
      clear hz hn hrb
      go_wp2_with fail
      refine region_later (by kernel_rfl) (by kernel_rfl) ?_
      iterate 5 (go_big_quiet_step (fail))
      go_big_quiet_step ((go_at_call 36; exact later_call KA.out _ _))
      iterate 2 (go_big_quiet_step (fail))
      go_big_quiet_step ((go_at_call 38; exact later_call KB.out _ _))
      iterate 3 (go_big_quiet_step (fail))
      refine wpQuiet_nil ?_
      intro w11 hw11
      have HX11 := Lib.hid (HX10.out.trans hw11)
      clear hw11
      go_wp2_with fail
      go_ret
      exact ⟨rfl, HX11.out⟩
end Go.Proofs.YtjllolagcdjlnaaGreat
