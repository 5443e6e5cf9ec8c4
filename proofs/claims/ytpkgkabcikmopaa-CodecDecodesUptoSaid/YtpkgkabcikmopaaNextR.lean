/-
  Bytes that are read from a place on: what the document's next and word give. The conditions: the bytes are at most 65536, and lie in old memory.
-/
import Derived.Test.YtpkgkabcikmopaaDecodeP
namespace Go.Proofs.Ytpkgkabcikmopaa
open Go.RowKit

theorem Try.aggRd : ∀ w, (isAgg 84).run Try.prog w = .ok true w := fun _ => by kernel_rfl
theorem Try.sizeRd : ∀ w, (Go.sizeOf 84).run Try.prog w = .ok 3 w := fun _ => by kernel_rfl
theorem Try.sizeI3' : ∀ w, (Go.sizeOf 3).run Try.prog w = .ok 1 w := fun _ => by kernel_rfl
/-- the middle of a slice -/
theorem wpList_cut_mid {P : Program} {ops : Array Oper} {rest : List Oper} {o : Oper} {a : Act} {Q : Exit → Act → World → Prop} {w : World} (hgd : o.guard = none) (t : TypeId) (x l h : Operand) (ho : o.op = .slice t x (some l) (some h) none)
    (size : Nat) (ht : P.underlying t = some (.slice (P.elem t))) (hz : ∀ w, (Go.sizeOf (P.elem t)).run P w = .ok size w) (A : Option Addr) (n cap p q m : Nat) (hm : q - p = m) (hx : a.eval x = .slice A n cap) (hl : a.eval l = .int .i64 p) (hh : a.eval h = .int .i64 q) (hp : p ≤ q) (hq : q ≤ n) (hn : n ≤ cap)
    (hk : ∀ A2, (p < q → ∀ b of, A = some ⟨b, of, none⟩ → A2 = some ⟨b, of + p * size, none⟩) → wpList P ops Q rest (a.put o.dst (.slice A2 m (cap - p))) w) : wpList P ops Q (o :: rest) a w :=
  wpList_plain hgd fun K hK => by
    subst hm
    have hrun := run_slice_lh (P := P) (w := w) t A n cap ht .i64 .i64 (p : Int) (q : Int) (by omega) (by omega) (by omega)
    rw [hz w] at hrun
    unfold Oper.wp execOp
    simp only [ho, Option.map, hx, hl, hh, Instr.sliceAt, run_underlying ht, Sem.run_bind, Result.andThen_ok, hrun]
    refine hK _ _ ?_
    simp only [sliced, Int.toNat_natCast]
    refine hk _ fun h0 b of hA => ?_
    subst hA
    rw [if_neg (by omega)]
    simp only [Option.map, Addr.add]
    split
    · rename_i h; simp [h]
    · rfl

set_option maxRecDepth 100000 in
set_option maxHeartbeats 800000 in
theorem next_okR (A : Option Addr) (N c n p : Nat) (la : List UInt8) (hN : N = la.length) (bad : Bool) (w : World) (hs : SrcAt w A la.length (cellsB la)) (hl : N ≤ 65536) (hp : p ≤ N) (hn : n ≤ 4) :
    Calls Try.prog 89 #[(Value.agg #[Value.slice A N c, Value.int IntKind.i64 (((p) : Nat) : Int), Value.bool bad]), .int .i64 n] w fun e w' => Ext w w' ∧ ∃ (x p' : Nat) (bad' : Bool), e = .returned (.tuple #[(Value.agg #[Value.slice A N c, Value.int IntKind.i64 (((p') : Nat) : Int), Value.bool bad']), .int .i64 x]) ∧ p' ≤ N ∧ ReadsN n (la.drop p) bad x (la.drop p') bad' := by
  have HS := Lib.hid hs
  clear hs
  have HN := Lib.hid hN
  clear hN
  by_cases hbad : bad = true ∨ N - p < n
  · have hR : ReadsN n (la.drop p) bad 0 (la.drop p) true := by
      refine ⟨fun _ => rfl, Nat.le_refl _, fun e => (by cases e), Nat.pow_pos (by omega), fun l rest hl' hb h0 => ?_⟩
      exfalso
      rcases hbad with h | h
      · rw [h0] at h; cases h
      · have := congrArg List.length hb
        rw [List.length_drop, List.length_append, ← HN.out] at this
        omega
    have HR := Lib.hid hR
    clear hR
    cases bad with
    | true =>
      clear hbad
      go_enter Try.func89, Try.ntmps89
      go_wp2_with fail
      refine bodyPost_ret (v := .tuple #[(Value.agg #[Value.slice A N c, Value.int IntKind.i64 (((p) : Nat) : Int), Value.bool true]), .int .i64 0]) (results_cell (cs := [.slice A N c, .int .i64 p, .bool true]) Try.results89 rfl Try.aggRd Try.sizeRd rfl (cellsAt_new _ _ (by simp))) rfl ⟨((Ext.refl w).alloc _).alloc _, 0, p, true, rfl, hp, HR.out⟩
    | false =>
      have hlt : N - p < n := by
        rcases hbad with h | h
        · cases h
        · exact h
      have t1 : decide ((N : Int) - p < n) = true := by simp; omega
      clear hbad
      go_enter Try.func89, Try.ntmps89
      go_wp2_with fail
      refine bodyPost_ret (v := .tuple #[(Value.agg #[Value.slice A N c, Value.int IntKind.i64 (((p) : Nat) : Int), Value.bool true]), .int .i64 0]) (results_cell (cs := [.slice A N c, .int .i64 p, .bool true]) Try.results89 rfl Try.aggRd Try.sizeRd rfl (cellsAt_new _ _ (by simp))) rfl ⟨((Ext.refl w).alloc _).alloc _, 0, p, true, rfl, hp, HR.out⟩
  · obtain rfl : bad = false := by cases bad <;> simp_all
    have hnp : p + n ≤ N := by simp at hbad; omega
    have t1 : decide ((N : Int) - p < n) = false := by simp; omega
    clear hbad
    go_enter Try.func89, Try.ntmps89
    go_wp2_with fail
    have hW : Ext w ((w.alloc (Obj.cells #[Value.slice A N c, Value.int IntKind.i64 (((p) : Nat) : Int), Value.bool false] 84)).alloc (Obj.cells #[Value.slice none 0 0, Value.int IntKind.i64 (((0) : Nat) : Int), Value.bool false] 84)) := ((Ext.refl w).alloc _).alloc _
    have HW := Lib.hid hW
    clear hW
    go_loopw [6, 7] (fun u6 u7 wr => ∃ k : Nat, k ≤ n ∧ u7 = .int .i64 k ∧ (∃ y : Nat, u6 = .int .i64 y ∧ y < 256 ^ k ∧ Hid (y = beNat ((la.drop p).take k))) ∧ wr = (w.alloc (Obj.cells #[Value.slice A N c, Value.int IntKind.i64 (((p) : Nat) : Int), Value.bool false] 84)).alloc (Obj.cells #[Value.slice none 0 0, Value.int IntKind.i64 (((0) : Nat) : Int), Value.bool false] 84)) (fun _ u7 _ => n - (intOf u7).toNat)
    case atStart => exact ⟨0, Nat.zero_le _, rfl, ⟨0, rfl, by simp, Lib.hid (by simp [beNat])⟩, rfl⟩
    case round =>
      obtain ⟨k, hk, rfl, ⟨y, rfl, hy, HY⟩, rfl⟩ := hrel
      by_cases hlt : k < n
      · obtain ⟨b, hb⟩ : ∃ b, (la.drop p)[k]? = some b := ⟨_, List.getElem?_eq_getElem (by rw [List.length_drop, ← HN.out]; omega)⟩
        obtain ⟨bb, of, rfl, hc⟩ := HS.out (by rw [← HN.out]; omega)
        have f0 : w.cell? ⟨bb, of + (p + k), none⟩ = some (.int .u8 b.toNat) := hc (p + k) _ (cellsB_get (by rw [List.getElem?_drop] at hb; exact hb))
        have hbw : bb < w.heap.size := World.block_lt_of_cell? w ⟨bb, of + (p + k), none⟩ f0
        have hbl := b.toNat_lt
        have HB := Lib.hid hb
        have hy2 : y < 16777216 := Nat.lt_of_lt_of_le hy (Nat.pow_le_pow_right (by omega) (show k ≤ 3 by omega))
        clear hc hb
        go_wp2_with fail
        go_roundw
        case rel =>
          refine ⟨k + 1, by omega, by go_num, ⟨y * 256 + b.toNat, by simp, by rw [Nat.pow_succ]; omega, Lib.hid ?_⟩, rfl⟩
          rw [take_succ_of HB.out, beNat_snoc, HY.out]
        case measure => simp [intOf]; omega
      · have hke : k = n := by omega
        subst hke
        have HYY := Lib.hid HY.out
        clear HY
        go_wp2_with fail
        refine bodyPost_ret (v := .tuple #[(Value.agg #[Value.slice A N c, Value.int IntKind.i64 (((p + k) : Nat) : Int), Value.bool false]), .int .i64 y]) (results_cell (cs := [.slice A N c, .int .i64 (p + k : Nat), .bool false]) Try.results89 rfl Try.aggRd Try.sizeRd rfl (cellsAt_new _ _ (by simp))) rfl ⟨((Ext.refl w).alloc _).alloc _, y, p + k, false, rfl, hnp, ?_⟩
        refine ⟨fun e => (by cases e), by simp only [List.length_drop]; omega, fun _ => by simp only [List.length_drop, ← HN.out]; omega, hy, fun l rest hl' hb h0 => ?_⟩
        have e1 : (la.drop p).take k = l := by rw [hb, ← hl', List.take_left]
        have e2 : la.drop (p + k) = rest := by rw [← List.drop_drop, hb, ← hl', List.drop_left]
        exact ⟨by rw [HYY.out, e1], e2, rfl⟩

theorem SrcAt.grow {w w' : World} {A : Option Addr} {n : Nat} {xs : List Value} (h : SrcAt w A n xs) (k : Ext w w') : SrcAt w' A n xs := fun h0 => by
  obtain ⟨b, of, e, hc⟩ := h h0
  exact ⟨b, of, e, fun j v hj => (World.cell?_of_block (a := ⟨b, of + j, none⟩) (k.block b (block_lt_of_cell (hc j v hj)))).trans (hc j v hj)⟩
theorem Ext.fresh {w w1 w2 : World} {g : Nat} (h : Ext w w1) (k : GrownBy w1 w2 (some g)) (hg : w.heap.size ≤ g) : Ext w w2 :=
  ⟨⟨k.os.trans h.os, k.tape.trans h.tape, k.output.trans h.output, Nat.le_trans h.size k.size, fun b hb => (k.block b (Nat.lt_of_lt_of_le hb h.size) (fun e => by injection e with e; omega)).trans (h.block b hb)⟩, Nat.le_trans h.drawn k.drawn⟩
theorem rd_one (A : Option Addr) (N c p : Nat) (bad : Bool) : ∀ v ∈ [Value.slice A N c, Value.int IntKind.i64 (p : Int), Value.bool bad], v.oneCell' = true := by
  intro v hv
  simp at hv
  rcases hv with rfl | rfl | rfl <;> rfl
/-- bytes with a length before them -/
theorem readsT_good {bs bs1 : List UInt8} {bad : Bool} {n : Nat} (h : ReadsN 4 bs bad n bs1 false) (hn : n ≤ bs1.length) : ReadsT bs bad (strOf (bs1.take n)) (bs1.drop n) false := by
  have h0 : bad = false := h.good rfl
  refine ⟨fun e => (by rw [h0] at e; cases e), by have := h.2.1; simp only [List.length_drop]; omega, by rw [strOf_size, List.length_take]; have := h.2.1; omega, fun _ => (by have := h.2.2.1 rfl; rw [strOf_size, List.length_take, List.length_drop]; omega), ?_⟩
  rintro t rest ht rfl _
  obtain ⟨e1, e2, _⟩ := h.2.2.2.2 (be4 t.size) (t.data.toList ++ rest) rfl (by unfold txt; rw [List.append_assoc]) h0
  rw [beNat_be4 ht] at e1
  have hts : t.data.toList.length = t.size := by rw [Array.length_toList]; rfl
  subst e2
  rw [e1, ← hts, List.take_left, List.drop_left]
  exact ⟨rfl, rfl, rfl⟩
theorem readsT_bad {bs bs1 : List UInt8} {bad bad1 : Bool} {n : Nat} (h : ReadsN 4 bs bad n bs1 bad1) (hb : bad1 = true ∨ bs1.length < n) : ReadsT bs bad ByteArray.empty bs1 true := by
  refine ⟨fun _ => rfl, h.2.1, Nat.zero_le _, fun e => (by cases e), ?_⟩
  rintro t rest ht rfl h0
  exfalso
  obtain ⟨e1, e2, e3⟩ := h.2.2.2.2 (be4 t.size) (t.data.toList ++ rest) rfl (by unfold txt; rw [List.append_assoc]) h0
  rw [beNat_be4 ht] at e1
  have hts : t.data.toList.length = t.size := by rw [Array.length_toList]; rfl
  rcases hb with h | h
  · rw [h] at e3; cases e3
  · rw [e2, List.length_append] at h; omega

set_option maxRecDepth 100000 in
set_option maxHeartbeats 800000 in
theorem word_okR (A : Option Addr) (N c p : Nat) (la : List UInt8) (hNe : N = la.length) (bad : Bool) (w : World) (hs : SrcAt w A la.length (cellsB la)) (hl : N ≤ 65536) (hc : N ≤ c) (hp : p ≤ N) :
    Calls Try.prog 90 #[(Value.agg #[Value.slice A N c, Value.int IntKind.i64 (((p) : Nat) : Int), Value.bool bad])] w fun e w' => Ext w w' ∧ ∃ (s : ByteArray) (p' : Nat) (bad' : Bool), e = .returned (.tuple #[(Value.agg #[Value.slice A N c, Value.int IntKind.i64 (((p') : Nat) : Int), Value.bool bad']), .string s]) ∧ p' ≤ N ∧ ReadsT (la.drop p) bad s (la.drop p') bad' := by
  have HS := Lib.hid hs
  have HNe := Lib.hid hNe
  clear hs hNe
  go_enter Try.func90, Try.ntmps90
  go_wp2_with fail
  refine (next_okR A N c 4 p la HNe.out bad _ (HS.out.grow (((Ext.refl w).alloc _).alloc _)) hl hp (by omega)).mono ?_
  rintro e w1 ⟨hx, n, p1, bad1, rfl, hp1, hN⟩
  have hxw : Ext w w1 := (((Ext.refl w).alloc _).alloc _).trans hx
  have hs2 : w.heap.size + 2 ≤ w1.heap.size := by have := hx.size; simpa using this
  have hz : w1.heap[w.heap.size + 1]? = some (Obj.cells #[Value.slice none 0 0, Value.int IntKind.i64 (((0) : Nat) : Int), Value.bool false] 84) := (hx.block (w.heap.size + 1) (by simp)).trans (by rw [show w.heap.size + 1 = (w.alloc (Obj.cells #[Value.slice A N c, Value.int IntKind.i64 (((p) : Nat) : Int), Value.bool bad] 84)).heap.size by simp]; exact heap_alloc_new _ _)
  have hn : n < 4294967296 := by simpa using hN.2.2.2.1
  have HX := Lib.hid hxw
  have HZ := Lib.hid hz
  have HN := Lib.hid hN
  clear hx hxw hz hN
  by_cases hb : bad1 = true ∨ N - p1 < n
  · have HT : Hid (ReadsT (la.drop p) bad ByteArray.empty (la.drop p1) true) := Lib.hid (readsT_bad HN.out (by rcases hb with h | h; exact .inl h; exact .inr (by rw [List.length_drop, ← HNe.out]; exact h)))
    have HFin : Hid (∀ wz : World, wz = (w1.alloc (Obj.cells #[Value.slice A N c, Value.int IntKind.i64 (((p1) : Nat) : Int), Value.bool true] 84)).setRow (w.heap.size + 1) #[.slice A N c, .int .i64 p1, .bool true] → wz.heap[w.heap.size + 1]? = some (Obj.cells #[Value.slice A N c, Value.int IntKind.i64 (((p1) : Nat) : Int), Value.bool true] 84) ∧ Ext w wz) := Lib.hid fun wz e => by
      have hg : (w1.alloc (Obj.cells #[Value.slice A N c, Value.int IntKind.i64 (((p1) : Nat) : Int), Value.bool true] 84)).heap[w.heap.size + 1]? = some (Obj.cells #[Value.slice none 0 0, Value.int IntKind.i64 (((0) : Nat) : Int), Value.bool false] 84) := (Below.heap_alloc w1 _ _ (by omega)).trans HZ.out
      rw [e]
      exact ⟨heap_setRow hg _, (HX.out.alloc _).setRow (by omega) _⟩
    cases bad1 with
    | true =>
      clear hb
      go_wp2_with (refine wpList_store_whole rfl 84 _ _ rfl (w.heap.size + 1) rfl [.slice A N c, .int .i64 p1, .bool true] rfl Try.sizeRd rfl 84 _ ((Below.heap_alloc w1 _ _ (by omega)).trans HZ.out) rfl (rd_one A N c p1 true) ?_; intro wz hwz; have HWz := Lib.hid hwz; clear hwz)
      obtain ⟨h1, h2⟩ := HFin.out wz HWz.out
      refine bodyPost_ret (v := .tuple #[(Value.agg #[Value.slice A N c, Value.int IntKind.i64 (((p1) : Nat) : Int), Value.bool true]), .string ByteArray.empty]) (results_cell (cs := [.slice A N c, .int .i64 p1, .bool true]) Try.results90 rfl Try.aggRd Try.sizeRd rfl (fun j v hj => by rw [cell_of_row _ _ _ _ _ _ h1, Nat.zero_add]; simpa using hj)) rfl ⟨h2, _, p1, true, rfl, hp1, HT.out⟩
    | false =>
      have t1 : decide ((N : Int) - p1 < n) = true := by
        rcases hb with h | h
        · cases h
        · simp; omega
      clear hb
      go_wp2_with (refine wpList_store_whole rfl 84 _ _ rfl (w.heap.size + 1) rfl [.slice A N c, .int .i64 p1, .bool true] rfl Try.sizeRd rfl 84 _ ((Below.heap_alloc w1 _ _ (by omega)).trans HZ.out) rfl (rd_one A N c p1 true) ?_; intro wz hwz; have HWz := Lib.hid hwz; clear hwz)
      obtain ⟨h1, h2⟩ := HFin.out wz HWz.out
      refine bodyPost_ret (v := .tuple #[(Value.agg #[Value.slice A N c, Value.int IntKind.i64 (((p1) : Nat) : Int), Value.bool true]), .string ByteArray.empty]) (results_cell (cs := [.slice A N c, .int .i64 p1, .bool true]) Try.results90 rfl Try.aggRd Try.sizeRd rfl (fun j v hj => by rw [cell_of_row _ _ _ _ _ _ h1, Nat.zero_add]; simpa using hj)) rfl ⟨h2, _, p1, true, rfl, hp1, HT.out⟩
  · obtain rfl : bad1 = false := by cases bad1 <;> simp_all
    have hnp : p1 + n ≤ N := by simp at hb; omega
    have t1 : decide ((N : Int) - p1 < n) = false := by simp; omega
    have hbl : ((la.drop p1).take n).length = n := by rw [List.length_take, List.length_drop, ← HNe.out]; omega
    have HBl := Lib.hid hbl
    have HT : Hid (ReadsT (la.drop p) bad (strOf ((la.drop p1).take n)) (la.drop (p1 + n)) false) := Lib.hid (by rw [← List.drop_drop]; exact readsT_good HN.out (by rw [List.length_drop, ← HNe.out]; omega))
    have HSrc : Hid (∀ A2, (p1 < p1 + n → ∀ b of, A = some ⟨b, of, none⟩ → A2 = some ⟨b, of + p1 * 1, none⟩) → SrcAt (w1.alloc (Obj.cells #[Value.slice A N c, Value.int IntKind.i64 (((p1) : Nat) : Int), Value.bool false] 84)) A2 n (cellsB ((la.drop p1).take n))) := Lib.hid fun A2 hA h0 => by
      obtain ⟨b, of, e, hcs⟩ := HS.out.grow (HX.out.alloc (Obj.cells #[Value.slice A N c, Value.int IntKind.i64 (((p1) : Nat) : Int), Value.bool false] 84)) (by rw [← HNe.out]; omega)
      refine ⟨b, of + p1, by have := hA (by omega) b of e; rwa [Nat.mul_one] at this, fun j v hj => ?_⟩
      have h1 := hcs (p1 + j) v (by
        unfold cellsB at hj ⊢
        rw [List.getElem?_map, List.getElem?_take] at hj
        split at hj
        · rw [List.getElem?_drop] at hj; rw [List.getElem?_map]; exact hj
        · cases hj)
      rwa [← Nat.add_assoc] at h1
    clear hb hbl
    go_wp2_with (first | (refine wpList_cut_mid rfl 47 (.tmp 27) (.tmp 29) (.tmp 33) rfl 1 Try.elemB Try.elemBs A N c p1 (p1 + n) n (by omega) rfl rfl (by simp [Act.eval, go_sem]) (by omega) hnp hc ?_; intro A2 hA; have HA := Lib.hid (HSrc.out A2 hA); clear hA) | (refine wpList_str rfl (.tmp 34) rfl A2 (c - p1) ((la.drop p1).take n) (by rw [HBl.out]; rfl) (by rw [HBl.out]; exact HA.out) ?_) | (refine wpList_store_whole rfl 84 (.tmp 2) (.tmp 41) rfl (w.heap.size + 1) rfl [.slice A N c, .int .i64 (p1 + n : Nat), .bool false] rfl Try.sizeRd rfl 84 _ ((Below.heap_alloc w1 _ _ (by omega)).trans HZ.out) rfl (rd_one A N c (p1 + n) false) ?_; intro wz hwz; have HWz := Lib.hid hwz; clear hwz))
    have hg : (w1.alloc (Obj.cells #[Value.slice A N c, Value.int IntKind.i64 (((p1 + n) : Nat) : Int), Value.bool false] 84)).heap[w.heap.size + 1]? = some (Obj.cells #[Value.slice none 0 0, Value.int IntKind.i64 (((0) : Nat) : Int), Value.bool false] 84) := (Below.heap_alloc w1 _ _ (by omega)).trans HZ.out
    have h1 : wz.heap[w.heap.size + 1]? = some (Obj.cells #[Value.slice A N c, Value.int IntKind.i64 (((p1 + n) : Nat) : Int), Value.bool false] 84) := by rw [HWz.out]; exact heap_setRow hg _
    have h2 : Ext w wz := by rw [HWz.out]; exact (HX.out.alloc _).setRow (by omega) _
    refine bodyPost_ret (v := .tuple #[(Value.agg #[Value.slice A N c, Value.int IntKind.i64 (((p1 + n) : Nat) : Int), Value.bool false]), .string (strOf ((la.drop p1).take n))]) (results_cell (cs := [.slice A N c, .int .i64 (p1 + n : Nat), .bool false]) Try.results90 rfl Try.aggRd Try.sizeRd rfl (fun j v hj => by rw [cell_of_row _ _ _ _ _ _ h1, Nat.zero_add]; simpa using hj)) rfl ⟨h2, _, p1 + n, false, rfl, hnp, HT.out⟩
end Go.Proofs.Ytpkgkabcikmopaa
