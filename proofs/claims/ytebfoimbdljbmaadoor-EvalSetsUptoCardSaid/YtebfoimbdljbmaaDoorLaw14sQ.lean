/-
  EvalSets: what the statement's own function answers. The conditions: the arguments lie in memory as they should; the table of operators lies as it is laid at the start.
-/
import Derived.Test.YtebfoimbdljbmaaDoorLaw14nQ
import Derived.Test.YtebfoimbdljbmaaDoorRead3Q
import Derived.Test.YtebfoimbdljbmaaDoorGh
namespace Go.Proofs.YtebfoimbdljbmaaDoor
open Go.RowKit

/-- the operators of sets -/
def Set4 (op : Int) : Prop := op = 1 ∨ op = 19 ∨ op = 21 ∨ op = 22 ∨ op = 23
theorem evS_ok {q : Req} : ∀ n, EvOf Set4 q [] n
  | 0 => fun e g w cs hn => by cases e; simp at hn
  | n + 1 => fun e g w cs hn hl hr he => by
    have ih := evS_ok (q := q) n
    cases hb : badOp e.op e.kids.length e.names.length with
    | true => exact eval_bad ih e g w cs hb hn hl hr he
    | false =>
      rcases (Exp.fine_iff.1 hl).1 with h | h | h | h | h
      · exact eval_lit ih e g w cs h hb hn hl hr he
      · exact eval_set ih e g w cs (by simp) h hb hn hl hr he
      · exact eval_two ih e g w cs (.inr <| .inr <| .inr <| .inr <| .inr <| .inr <| .inr <| .inl h) hb (fun S a b W ca cb hS hr ha hb => by rw [h]; exact two_21 S a b g W ca cb hS hr ha hb) hn hl hr he
      · exact eval_two ih e g w cs (.inr <| .inr <| .inr <| .inr <| .inr <| .inr <| .inr <| .inr <| .inl h) hb (fun S a b W ca cb hS hr ha hb => by rw [h]; exact two_22 S a b g W ca cb hS hr ha hb) hn hl hr he
      · exact eval_two ih e g w cs (.inr <| .inr <| .inr <| .inr <| .inr <| .inr <| .inr <| .inr <| .inr <| h) hb (fun S a b W ca cb hS hr ha hb => by rw [h]; exact two_23 S a b g W ca cb hS hr ha hb) hn hl hr he
theorem evalS_ok (e : Exp) (r : Rs) (w : World) (cs : List Value) (hr : e.eval reqZ [] = r) (hd : e.dep ≤ 1000000) (hl : e.lits 1000000) (ho : e.ops Set4) (he : InX w e cs) (hs : Sums w) :
    Calls Tryd.prog 7 #[.agg cs.toArray, .agg reqC.toArray, .pointer none] w (ValErr r.1 r.2 w) := evalZA_ok evS_ok e r w cs hr hd ⟨hl, ho⟩ he hs
theorem val_any {S S' : Nat → Prop} {w w' : World} {n : Int} {vc : List Value} (h : Val.At S w (.whole n) vc) : Val.At S' w' (.whole n) vc := by
  unfold Val.whole Val.At at h ⊢
  obtain ⟨A, cap, nv, e, h1, h2, _, A2, cap2, rfl, h4, h5, h6, h7, _⟩ := h
  exact ⟨A, cap, _, e, h1, h2, fun hn => absurd hn (by simp), A2, cap2, rfl, h4, h5, h6, h7, fun hn => absurd hn (by simp)⟩
theorem strs_any {S S' : Nat → Prop} {w w' : World} {v : Value} (h : StrsAt S w [] v) : StrsAt S' w' [] v := by
  obtain ⟨A2, cap2, e, h4, h5, h6, h7, _⟩ := h
  exact ⟨A2, cap2, e, h4, h5, h6, h7, fun hn => absurd hn (by simp)⟩
theorem lit_any {S S' : Nat → Prop} {w w' : World} {n : Int} {cs : List Value} (h : Exp.At S w (.lit (.whole n)) cs) : Exp.At S' w' (.lit (.whole n)) cs := by
  unfold Exp.lit Exp.At at h ⊢
  obtain ⟨vc, K, cap, nv, e, h1, h2, h3, _, h5⟩ := h
  exact ⟨vc, K, cap, nv, e, h1, val_any h2, h3, fun hn => absurd hn (by simp), strs_any h5⟩
/-- a set's expression in a block of its own, whose kids are a row in the making -/
def BoxE (g base : Nat) (l : List Int) (W : World) : Prop := ∃ A c, OwnL expR 31 base W (.slice A l.length c) (l.map fun n => Exp.lit (.whole n)) ∧ W.heap[g]? = some (.cells #[.int .i64 19, .int .i64 0, .bool false, .int .i64 0, .string ByteArray.empty, .string ByteArray.empty, .string ByteArray.empty, .slice none 0 0, .slice none 0 0, .string ByteArray.empty, .slice A l.length c, .slice none 0 0] 31 (0, 0))
theorem BoxE.ext {g base : Nat} {l : List Int} {W W' : World} (h : BoxE g base l W) (k : Ext W W') : BoxE g base l W' := by
  obtain ⟨A, c, h1, h2⟩ := h
  exact ⟨A, c, h1.ext k, (k.block _ (Blk_lt h2)).trans h2⟩
theorem own_lits {base : Nat} {l : List Int} {W : World} {v : Value} (h : OwnL expR 31 base W v (l.map fun n => Exp.lit (.whole n))) (hl : l.length ≤ 15) : expR.RowsAt (fun b => base ≤ b ∧ b < W.heap.size) W (l.map fun n => Exp.lit (.whole n)) v := by
  obtain ⟨A, cap, rfl, hb, hr⟩ := h.rows (by rw [LIM_eq]; simp; omega)
  refine ⟨A, cap, rfl, hb, fun hn => ?_⟩
  obtain ⟨b, o, rfl, hs, hrow⟩ := hr hn
  refine ⟨b, o, rfl, h.lt b rfl, fun i x hx => ?_⟩
  obtain ⟨cs, hc, ha⟩ := hrow i x hx
  obtain ⟨n, _, rfl⟩ := List.mem_map.1 (List.mem_of_getElem? hx)
  exact ⟨cs, hc, lit_any ha⟩
theorem BoxE.at {g base : Nat} {l : List Int} {W : World} (h : BoxE g base l W) (hl : l.length ≤ 15) : ∃ A c, W.heap[g]? = some (.cells #[.int .i64 19, .int .i64 0, .bool false, .int .i64 0, .string ByteArray.empty, .string ByteArray.empty, .string ByteArray.empty, .slice none 0 0, .slice none 0 0, .string ByteArray.empty, .slice A l.length c, .slice none 0 0] 31 (0, 0)) ∧ Exp.At (fun b => base ≤ b ∧ b < W.heap.size) W (setE l) (opC 19 (.slice A l.length c)) := by
  obtain ⟨A, c, h1, h2⟩ := h
  exact ⟨A, c, h2, of_at (by unfold I64; omega) (own_lits h1 hl)⟩
theorem setE_ops (l : List Int) : (setE l).ops Set4 := by
  unfold setE
  rw [Exp.of, Exp.ops, Exp.opsL_iff]
  refine ⟨by simp [Set4], fun x hx => ?_⟩
  obtain ⟨n, _, rfl⟩ := List.mem_map.1 hx
  simp [Exp.lit, Exp.ops, Exp.opsL, Set4]
theorem setE_lits (l : List Int) : (setE l).lits 1000000 := by
  unfold setE
  refine Exp.of_lits (by omega) fun x hx => ?_
  obtain ⟨n, _, rfl⟩ := List.mem_map.1 hx
  exact whole_lits n
theorem map_snoc {l : List Int} {k : Nat} {n : Int} (h : l[k]? = some n) : ((l.take (k + 1)).map fun n => Exp.lit (.whole n)) = ((l.take k).map fun n => Exp.lit (.whole n)) ++ [Exp.lit (.whole n)] := by
  rw [List.take_add_one, h]; simp
theorem Tryd.infoEx : (Tryd.prog.info? 31).map (fun i => (i.zero, i.size, i.bytes)) = some (some (.agg ([.int .i64 0, .int .i64 0, .bool false, .int .i64 0, .string ByteArray.empty, .string ByteArray.empty, .string ByteArray.empty, .slice none 0 0, .slice none 0 0, .string ByteArray.empty, .slice none 0 0, .slice none 0 0] : List Value).toArray), 12, 192) := by kernel_rfl
theorem Tryd.und41 : Tryd.prog.underlying 41 = some (.slice (Tryd.prog.elem 41)) := by kernel_rfl
theorem Tryd.siz41 : ∀ w, (Go.sizeOf (Tryd.prog.elem 41)).run Tryd.prog w = .ok 1 w := fun _ => by kernel_rfl
theorem Tryd.agg42 : ∀ w, (isAgg 42).run Tryd.prog w = .ok false w := fun _ => by kernel_rfl
theorem Tryd.aggXs : ∀ w, (isAgg 29).run Tryd.prog w = .ok false w := fun _ => by kernel_rfl
theorem Tryd.sizXs : ∀ w, (Go.sizeOf 29).run Tryd.prog w = .ok 1 w := fun _ => by kernel_rfl
theorem Tryd.undXs : Tryd.prog.underlying 29 = some (.slice (Tryd.prog.elem 29)) := by kernel_rfl
theorem Tryd.sizXe : ∀ w, (Go.sizeOf (Tryd.prog.elem 29)).run Tryd.prog w = .ok 12 w := fun _ => by kernel_rfl
theorem Tryd.fieldEx3 (g : Nat) : ∀ w, (Instr.fieldAt 31 (.pointer (some ⟨g, 0, none⟩)) 3).run Tryd.prog w = .ok (.pointer (some ⟨g, 10, none⟩)) w := by
  intro w; simp [Instr.fieldAt, go_sem]
theorem Tryd.cv8 (n : Int) (h : -128 ≤ n ∧ n ≤ 127) (w : World) : (convert 42 2 (.int .i8 n)).run Tryd.prog w = .ok (.int .i64 n) w := by
  obtain ⟨h0, h1⟩ := h
  simp [go_sem]
  rw [IntKind.wrap_i64]
  omega
theorem Tryd.row1 (xs : List Value) (hx : xs.length = 12) (w : World) : (Instr.buildSlice 29 1 #[(0, .agg xs.toArray)]).run Tryd.prog w = .ok (.slice (some ⟨w.heap.size, 0, none⟩) 1 1) (w.alloc (.cells xs.toArray 31)) := by
  match xs, hx with
  | [a0, a1, a2, a3, a4, a5, a6, a7, a8, a9, a10, a11], _ => simp [Instr.buildSlice, go_sem]
theorem i8_in {n : Int} (h : (Lit.int .i8 n).wf = true) : -128 ≤ n ∧ n ≤ 127 := by simpa [Lit.wf, IntKind.min, IntKind.max, IntKind.signed, IntKind.bits] using h
theorem flat_any {S S' : Nat → Prop} {W W' : World} : ∀ {l : List Int} {xs : List Value}, expR.Flat S W (l.map fun n => Exp.lit (.whole n)) xs → expR.Flat S' W' (l.map fun n => Exp.lit (.whole n)) xs
  | [], _, h => h
  | _ :: _, _, ⟨cs, ys, e, h1, h2⟩ => ⟨cs, ys, e, lit_any h1, flat_any h2⟩
theorem own_keep {base g : Nat} {l : List Int} {W W' : World} {v : Value} (h : OwnL expR 31 base W v (l.map fun n => Exp.lit (.whole n))) (k : GrownBy W W' (some g)) (hg : g < base) : OwnL expR 31 base W' v (l.map fun n => Exp.lit (.whole n)) := by
  obtain ⟨xs, h1, h2⟩ := h
  exact ⟨xs, ownsRow_apart h1 k (fun b hb e => by injection e with e; have := (h1.lt b hb).1; omega), flat_any h2⟩
/-- what the operations ahead of an append come to -/
def PutK (w0 : World) (g : Nat) (kv av : Value) (k : Nat) (b off : Nat) (n : Int) (lc : List Value) (i : Nat) (v : Value) (W : World) : Prop :=
  match i with
  | 0 => v = .pointer (some ⟨g, 10, none⟩)
  | 1 => v = kv
  | 2 => v = av
  | 3 => v = .int .i64 k
  | 4 => v = .pointer (some ⟨b, off + k * 1, none⟩)
  | 5 => v = .int .i8 n
  | 6 => v = .int .i64 n
  | 7 => v = .agg ([.int .i64 2, .bool false, .int .i64 n, .string ByteArray.empty, .string ByteArray.empty, .string ByteArray.empty, .slice none 0 0, .slice none 0 0] : List Value).toArray
  | 8 => v = .agg lc.toArray
  | 9 => ∃ A, v = .slice (some ⟨A, 0, none⟩) 1 1 ∧ w0.heap.size ≤ A ∧ W.heap[A]? = some (.cells lc.toArray 31 (0, 0))
  | _ => False
theorem PutK.ext {w0 : World} {g : Nat} {kv av : Value} {k b off : Nat} {n : Int} {lc : List Value} : ∀ (i : Nat) (v : Value) (W W' : World), PutK w0 g kv av k b off n lc i v W → Ext W W' → PutK w0 g kv av k b off n lc i v W'
  | 0, _, _, _, h, _ => h
  | 1, _, _, _, h, _ => h
  | 2, _, _, _, h, _ => h
  | 3, _, _, _, h, _ => h
  | 4, _, _, _, h, _ => h
  | 5, _, _, _, h, _ => h
  | 6, _, _, _, h, _ => h
  | 7, _, _, _, h, _ => h
  | 8, _, _, _, h, _ => h
  | 9, _, _, _, ⟨A, e, h1, h2⟩, k => ⟨A, e, h1, (k.block _ (Blk_lt h2)).trans h2⟩
  | _ + 10, _, _, _, h, _ => h
/-- what the operations ahead of the question come to -/
def HasV (w0 : World) (g : Nat) (kv : Value) (k kb ko : Nat) (xc yc : List Value) (i : Nat) (v : Value) (W : World) : Prop :=
  match i with
  | 0 => v = .agg xc.toArray
  | 1 => v = .pointer (some ⟨g, 10, none⟩)
  | 2 => v = kv
  | 3 => v = .int .i64 k
  | 4 => v = .pointer (some ⟨kb, ko + k * 12, none⟩)
  | 5 => v = .agg yc.toArray
  | 6 => ∃ A, v = .slice (some ⟨A, 0, none⟩) 2 2 ∧ w0.heap.size ≤ A ∧ W.heap[A]? = some (.cells (xc ++ yc).toArray 31 (0, 0))
  | 7 => ∃ A, v = .agg ([.int .i64 21, .int .i64 0, .bool false, .int .i64 0, .string ByteArray.empty, .string ByteArray.empty, .string ByteArray.empty, .slice none 0 0, .slice none 0 0, .string ByteArray.empty, .slice (some ⟨A, 0, none⟩) 2 2, .slice none 0 0] : List Value).toArray ∧ w0.heap.size ≤ A ∧ W.heap[A]? = some (.cells (xc ++ yc).toArray 31 (0, 0))
  | 8 => v = .agg ([.string ByteArray.empty, .string ByteArray.empty, .string ByteArray.empty, .string ByteArray.empty, .string ByteArray.empty, .string ByteArray.empty, .int .i64 0, .bool false, .int .i64 0, .string ByteArray.empty, .string ByteArray.empty, .string ByteArray.empty, .slice none 0 0, .slice none 0 0] : List Value).toArray
  | _ => False
theorem HasV.ext {w0 : World} {g : Nat} {kv : Value} {k kb ko : Nat} {xc yc : List Value} : ∀ (i : Nat) (v : Value) (W W' : World), HasV w0 g kv k kb ko xc yc i v W → Ext W W' → HasV w0 g kv k kb ko xc yc i v W'
  | 0, _, _, _, h, _ => h
  | 1, _, _, _, h, _ => h
  | 2, _, _, _, h, _ => h
  | 3, _, _, _, h, _ => h
  | 4, _, _, _, h, _ => h
  | 5, _, _, _, h, _ => h
  | 6, _, _, _, ⟨A, e, h1, h2⟩, k => ⟨A, e, h1, (k.block _ (Blk_lt h2)).trans h2⟩
  | 7, _, _, _, ⟨A, e, h1, h2⟩, k => ⟨A, e, h1, (k.block _ (Blk_lt h2)).trans h2⟩
  | 8, _, _, _, h, _ => h
  | _ + 9, _, _, _, h, _ => h
theorem HasV.row {w0 : World} {g : Nat} {kv : Value} {k kb ko : Nat} {xc yc : List Value} {g' : Nat} {cur row : Array Value} : ∀ (i : Nat) (v : Value) (W : World), HasV w0 g kv k kb ko xc yc i v W → W.heap[g']? = some (.cells cur 28 (0, 0)) → HasV w0 g kv k kb ko xc yc i v (W.setRow g' row)
  | 0, _, _, h, _ => h
  | 1, _, _, h, _ => h
  | 2, _, _, h, _ => h
  | 3, _, _, h, _ => h
  | 4, _, _, h, _ => h
  | 5, _, _, h, _ => h
  | 6, _, _, ⟨A, e, h1, h2⟩, k => ⟨A, e, h1, row_keep (by decide) h2 k⟩
  | 7, _, _, ⟨A, e, h1, h2⟩, k => ⟨A, e, h1, row_keep (by decide) h2 k⟩
  | 8, _, _, h, _ => h
  | _ + 9, _, _, h, _ => h
theorem any_succ {f : Int → Bool} : ∀ {l : List Int} {j : Nat} {x : Int}, l[j]? = some x → (l.take (j + 1)).any f = ((l.take j).any f || f x)
  | _ :: _, 0, _, h => by simp at h; subst h; simp
  | _ :: r, j + 1, x, h => by
    have := any_succ (f := f) (l := r) (j := j) (x := x) (by simpa using h)
    simp only [List.take_succ_cons, List.any_cons, this, Bool.or_assoc]
theorem all_succ {f : Int → Bool} : ∀ {l : List Int} {j : Nat} {x : Int}, l[j]? = some x → (l.take (j + 1)).all f = ((l.take j).all f && f x)
  | _ :: _, 0, _, h => by simp at h; subst h; simp
  | _ :: r, j + 1, x, h => by
    have := all_succ (f := f) (l := r) (j := j) (x := x) (by simpa using h)
    simp only [List.take_succ_cons, List.all_cons, this, Bool.and_assoc]
theorem not_any {l : List Int} {f : Int → Bool} : (!(l.any fun n => !(f n))) = l.all f := by
  rw [Bool.eq_iff_iff]
  simp
theorem all_self {l : List Int} : (l.all fun n => decide (n ∈ l)) = true := by simp
theorem any_mem {l : List Int} {n : Int} : (l.any fun x => x == n) = decide (n ∈ l) := by
  rw [Bool.eq_iff_iff]
  simp
theorem list16n {α : Type} {l : List α} (h : l.length = 16) : ∃ a0 a1 a2 a3 a4 a5 a6 a7 a8 a9 b0 b1 b2 b3 b4 b5, l = [a0, a1, a2, a3, a4, a5, a6, a7, a8, a9, b0, b1, b2, b3, b4, b5] := by
  match l, h with
  | [a0, a1, a2, a3, a4, a5, a6, a7, a8, a9, b0, b1, b2, b3, b4, b5], _ => exact ⟨a0, a1, a2, a3, a4, a5, a6, a7, a8, a9, b0, b1, b2, b3, b4, b5, rfl⟩
theorem flat_one {S : Nat → Prop} {w : World} {e : Exp} {cs : List Value} (h : Exp.At S w e cs) : expR.Flat S w [e] cs := by
  have k := flat_cons h flat_nil
  rwa [List.append_nil] at k
theorem lit_set (n : Int) : (Exp.lit (.whole n)).ops Set4 := by simp [Exp.lit, Exp.ops, Exp.opsL, Set4]
theorem list10n {α : Type} {l : List α} (h : l.length = 10) : ∃ a0 a1 a2 a3 a4 a5 a6 a7 a8 a9, l = [a0, a1, a2, a3, a4, a5, a6, a7, a8, a9] := by
  match l, h with
  | [a0, a1, a2, a3, a4, a5, a6, a7, a8, a9], _ => exact ⟨a0, a1, a2, a3, a4, a5, a6, a7, a8, a9, rfl⟩
set_option maxRecDepth 100000 in
set_option maxHeartbeats 4000000 in
theorem evalSets_walk (la lb : List Int) (W : World) (va vb : Value) (ha : IntsAt .i8 (fun b => b < W.heap.size) W la va) (hb : IntsAt .i8 (fun b => b < W.heap.size) W lb vb) (hs : Sums W) :
    Calls Tryd.prog 4 #[va, vb] W fun e W' => e = .returned (.bool true) ∧ Ext W W' := by
  have HA := Lib.hid ha
  have HB := Lib.hid hb
  have HS := Lib.hid hs
  obtain ⟨aA, ac, rfl, ha0, ha1, ha2, _⟩ := ha
  obtain ⟨bA, bc, rfl, hb0, hb1, hb2, _⟩ := hb
  rw [LIM_eq] at ha0 hb0
  rw [maxLen_eq] at ha2 hb2
  clear hs
  go_enter Tryd.func4, Tryd.ntmps4
  go_wp2_with fail
  refine (awake14_ok W HS.out).mono ?_
  rintro e1 w1 ⟨rfl, hx1⟩
  have HX1 := Lib.hid hx1
  clear hx1
  by_cases hla : 15 < la.length
  · have t0 : decide ((15 : Int) < (la.length : Int)) = true := by simp; omega
    go_wp2_with fail
    go_ret
    exact ⟨rfl, HX1.out⟩
  have t0 : decide ((15 : Int) < (la.length : Int)) = false := by simp; omega
  by_cases hlb : 15 < lb.length
  · have t1 : decide ((15 : Int) < (lb.length : Int)) = true := by simp; omega
    go_wp2_with fail
    go_ret
    exact ⟨rfl, HX1.out⟩
  have t1 : decide ((15 : Int) < (lb.length : Int)) = false := by simp; omega
  have HLa := Lib.hid (show la.length ≤ 15 by omega)
  have HLb := Lib.hid (show lb.length ≤ 15 by omega)
  obtain ⟨p0, p1, ps, px⟩ := heapA2 w1 (.cells #[.int .i64 19, .int .i64 0, .bool false, .int .i64 0, .string ByteArray.empty, .string ByteArray.empty, .string ByteArray.empty, .slice none 0 0, .slice none 0 0, .string ByteArray.empty, .slice none 0 0, .slice none 0 0] 31) (.cells #[.int .i64 19, .int .i64 0, .bool false, .int .i64 0, .string ByteArray.empty, .string ByteArray.empty, .string ByteArray.empty, .slice none 0 0, .slice none 0 0, .string ByteArray.empty, .slice none 0 0, .slice none 0 0] 31)
  have HB6 := Lib.hid (show BoxE w1.heap.size (w1.heap.size + 2) [] _ from ⟨none, 0, OwnL.nil, p0⟩)
  have HB7 := Lib.hid p1
  have HX2 := Lib.hid (HX1.out.trans px)
  have HSz2 := Lib.hid (show w1.heap.size + 2 ≤ _ from Nat.le_of_eq ps.symm)
  clear p0 p1 ps px
  go_wp2_with fail
  go_loopw [8] (fun i' wr => ∃ k : Nat, k ≤ la.length ∧ i' = .int .i64 k ∧ Hid (BoxE w1.heap.size (w1.heap.size + 2) (la.take k) wr) ∧ Hid (wr.heap[w1.heap.size + 1]? = some (.cells #[.int .i64 19, .int .i64 0, .bool false, .int .i64 0, .string ByteArray.empty, .string ByteArray.empty, .string ByteArray.empty, .slice none 0 0, .slice none 0 0, .string ByteArray.empty, .slice none 0 0, .slice none 0 0] 31 (0, 0))) ∧ Hid (Ext W wr) ∧ Hid (w1.heap.size + 2 ≤ wr.heap.size)) (fun i' _ => la.length - (intOf i').toNat)
  case atStart => exact ⟨0, Nat.zero_le _, rfl, by rw [List.take_zero]; exact HB6, HB7, HX2, HSz2⟩
  case round =>
    clear HB6 HB7 HX2 HSz2 t0 t1 hla hlb
    obtain ⟨k, hk, rfl, HBx, HB7, HXr, HSz⟩ := hrel
    by_cases hlt : k < la.length
    · obtain ⟨_, _, ev, _, _, _, hwf, hr5⟩ := HA.out
      injection ev with ev1 ev2 ev3
      clear ev2
      subst ev1 ev3
      obtain ⟨b5, o5, eb, hb5, hcl⟩ := hr5 (by omega)
      clear hr5
      cases eb
      obtain ⟨n, hn⟩ : ∃ n, la[k]? = some n := ⟨_, List.getElem?_eq_getElem hlt⟩
      have HI8 := Lib.hid (i8_in (hwf n (List.mem_of_getElem? hn)))
      have HCell : Hid (wr.cell? ⟨b5, o5 + k * 1, none⟩ = some (.int .i8 n)) := Lib.hid (HXr.out.cell (by rw [Nat.mul_one]; exact hcl k _ (by rw [List.getElem?_map, hn]; rfl)))
      obtain ⟨kA, kc, hown, hbox⟩ := HBx.out
      have HOwn := Lib.hid hown
      have HBox := Lib.hid hbox
      have HLen := Lib.hid (show (la.take k).length ≤ 15 from by have := HLa.out; rw [List.length_take]; omega)
      have HGb := Lib.hid (show w1.heap.size < w1.heap.size + 2 from by omega)
      have Hlt := Lib.hid hlt
      have HNk := Lib.hid hn
      clear hcl hwf hn hown hbox hb5 HBx
      go_wp2_with fail
      refine region_known 10 (PutK wr w1.heap.size (.slice kA (la.take k).length kc) (.slice (some ⟨b5, o5, none⟩) la.length ac) k b5 o5 n [.int .i64 1, .int .i64 2, .bool false, .int .i64 n, .string ByteArray.empty, .string ByteArray.empty, .string ByteArray.empty, .slice none 0 0, .slice none 0 0, .string ByteArray.empty, .slice none 0 0, .slice none 0 0]) (by kernel_rfl) (by kernel_rfl) (by kernel_rfl) (fun i v W W' => PutK.ext i v W W') (fun i o j b hi ho hg => ?_) (fun i o hi ho W5 c hx hold hf Q K hK => ?_) ?_
      · rcases (by omega : i = 0 ∨ i = 1 ∨ i = 2 ∨ i = 3 ∨ i = 4 ∨ i = 5 ∨ i = 6 ∨ i = 7 ∨ i = 8 ∨ i = 9) with rfl | rfl | rfl | rfl | rfl | rfl | rfl | rfl | rfl | rfl <;> obtain rfl := Option.some.inj ho <;> cases hg
      · rcases (by omega : i = 0 ∨ i = 1 ∨ i = 2 ∨ i = 3 ∨ i = 4 ∨ i = 5 ∨ i = 6 ∨ i = 7 ∨ i = 8 ∨ i = 9) with rfl | rfl | rfl | rfl | rfl | rfl | rfl | rfl | rfl | rfl <;> obtain rfl := Option.some.inj ho
        · exact wp_known (exec_field 31 _ 3 rfl (hold 6 (by kernel_rfl)) (Tryd.fieldEx3 _)) hK
        · exact wp_known (exec_load_one 29 _ rfl w1.heap.size 10 (hf 0 41 (by omega) (by kernel_rfl) (by kernel_rfl)) Tryd.aggXs (cell_of_row _ _ 10 _ _ _ ((hx.block _ (Blk_lt HBox.out)).trans HBox.out))) hK
        · exact wp_known (exec_move rfl (hold 0 (by kernel_rfl))) hK
        · exact wp_known (exec_move rfl (hold 8 (by kernel_rfl))) hK
        · exact wp_known (exec_index rfl (hf 2 43 (by omega) (by kernel_rfl) (by kernel_rfl)) (hf 3 44 (by omega) (by kernel_rfl) (by kernel_rfl)) Tryd.und41 Tryd.siz41 Hlt.out) hK
        · exact wp_known (exec_load_one 42 _ rfl b5 (o5 + k * 1) (hf 4 45 (by omega) (by kernel_rfl) (by kernel_rfl)) Tryd.agg42 (hx.cell HCell.out)) hK
        · exact wp_known (exec_cvX rfl (hf 5 46 (by omega) (by kernel_rfl) (by kernel_rfl)) (Tryd.cv8 n HI8.out W5)) hK
        · have k1 : c.eval (.tmp 47) = .int .i64 n := (hf 6 47 (by omega) (by kernel_rfl) (by kernel_rfl))
          exact wp_known (exec_bldX rfl (by simp only [List.map_toArray, List.map_cons, List.map_nil, k1]; rfl) (Tryd.bldV n W5)) hK
        · refine wp_enters (Φ := fun v _ => v = .agg ([.int .i64 1, .int .i64 2, .bool false, .int .i64 n, .string ByteArray.empty, .string ByteArray.empty, .string ByteArray.empty, .slice none 0 0, .slice none 0 0, .string ByteArray.empty, .slice none 0 0, .slice none 0 0] : List Value).toArray) (exec_call Tryd.func6 rfl rfl rfl (map_one (hf 7 48 (by omega) (by kernel_rfl) (by kernel_rfl)))) ((lit_ok 2 false n ByteArray.empty ByteArray.empty ByteArray.empty none 0 0 none 0 0 W5).mono fun e W3 ⟨he, hx3⟩ => ⟨_, he, hx3, rfl⟩) hK
        · have k1 : c.eval (.tmp 49) = .agg ([.int .i64 1, .int .i64 2, .bool false, .int .i64 n, .string ByteArray.empty, .string ByteArray.empty, .string ByteArray.empty, .slice none 0 0, .slice none 0 0, .string ByteArray.empty, .slice none 0 0, .slice none 0 0] : List Value).toArray := (hf 8 49 (by omega) (by kernel_rfl) (by kernel_rfl))
          exact wp_leaves (Φ := (PutK wr w1.heap.size (.slice kA (la.take k).length kc) (.slice (some ⟨b5, o5, none⟩) la.length ac) k b5 o5 n [.int .i64 1, .int .i64 2, .bool false, .int .i64 n, .string ByteArray.empty, .string ByteArray.empty, .string ByteArray.empty, .slice none 0 0, .slice none 0 0, .string ByteArray.empty, .slice none 0 0, .slice none 0 0]) 9) (exec_buildN _ _ _ rfl (by simp only [List.map_toArray, List.map_cons, List.map_nil, k1]) (Tryd.row1 [.int .i64 1, .int .i64 2, .bool false, .int .i64 n, .string ByteArray.empty, .string ByteArray.empty, .string ByteArray.empty, .slice none 0 0, .slice none 0 0, .string ByteArray.empty, .slice none 0 0, .slice none 0 0] rfl W5)) ((Ext.refl W5).alloc _) ⟨_, rfl, hx.size, heap_alloc_new _ _⟩ hK
      intro xs W6 hlen hx hV
      obtain ⟨x0, x1, x2, x3, x4, x5, x6, x7, x8, x9, rfl⟩ := list10n hlen
      have e1 : x1 = (.slice kA (la.take k).length kc) := hV 1 (by omega)
      obtain ⟨A6, e9, hA1, hA2⟩ : ∃ A, x9 = .slice (some ⟨A, 0, none⟩) 1 1 ∧ wr.heap.size ≤ A ∧ W6.heap[A]? = some (.cells [.int .i64 1, .int .i64 2, .bool false, .int .i64 n, .string ByteArray.empty, .string ByteArray.empty, .string ByteArray.empty, .slice none 0 0, .slice none 0 0, .string ByteArray.empty, .slice none 0 0, .slice none 0 0].toArray 31 (0, 0)) := hV 9 (by omega)
      subst e1 e9
      have HOw6 := Lib.hid (HOwn.out.ext hx)
      have HBx6 := Lib.hid ((hx.block _ (Blk_lt HBox.out)).trans HBox.out)
      have HRow6 := Lib.hid hA2
      have HX6 := Lib.hid (HXr.out.trans hx)
      have Hx6 := Lib.hid hx
      have Hsz6 := Lib.hid (show (w1.heap.size + 2) ≤ W6.heap.size from Nat.le_trans HSz.out hx.size)
      obtain ⟨i0, hi0, hz0, hz1, hz2⟩ := info_parts Tryd.infoEx
      simp only [List.take, List.drop, putAll, Act.put, List.setIfInBounds_toArray, List.set_cons_zero, List.set_cons_succ]
      clear hV hlen hA1 hA2 hx
      go_wp2_with (first | (at_builtin; refine wpList_push_all rfl (.tmp 42) (.tmp 50) 29 rfl expR (w1.heap.size + 2) 31 i0 _ 192 Tryd.undXs hi0 hz0 hz1 hz2 rfl (.slice kA (la.take k).length kc) ((la.take k).map fun n => Exp.lit (.whole n)) [Exp.lit (.whole n)] (some ⟨A6, 0, none⟩) 1 1 [.int .i64 1, .int .i64 2, .bool false, .int .i64 n, .string ByteArray.empty, .string ByteArray.empty, .string ByteArray.empty, .slice none 0 0, .slice none 0 0, .string ByteArray.empty, .slice none 0 0, .slice none 0 0] rfl rfl HOw6.out (fun _ => ⟨A6, 0, rfl, cells_of_row HRow6.out⟩) rfl (flat_cons (cs := [.int .i64 1, .int .i64 2, .bool false, .int .i64 n, .string ByteArray.empty, .string ByteArray.empty, .string ByteArray.empty, .slice none 0 0, .slice none 0 0, .string ByteArray.empty, .slice none 0 0, .slice none 0 0]) (lit_at (whole_at _ _ n (by have := HI8.out; unfold I64; omega))) flat_nil) (by rw [maxLen_eq]; simp; have := HLen.out; omega) (by simp; have := HLen.out; omega) Hsz6.out ?_; intro v7 w7 ho7 hg7; obtain ⟨A7, c7, e7⟩ := ho7.shape; subst e7; have HOw7 := Lib.hid ho7; have HG7 := Lib.hid hg7; have HBx7 := Lib.hid ((hg7.block _ (Blk_lt HBx6.out) (fun e => by have := (HOw6.out.lt _ e.symm).1; have := HGb.out; omega)).trans HBx6.out); clear ho7 hg7) | (with_reducible refine at_store ?_; refine wpList_store_slice rfl 29 _ _ rfl w1.heap.size 10 rfl A7 _ c7 rfl Tryd.sizXs 31 _ HBx7.out (by simp) ?_; intro w8 hb8 hg8; have HBx8 := Lib.hid hb8; have HG8 := Lib.hid hg8; clear hb8 hg8))
      have HOw8 := Lib.hid (own_keep (l := (la.take (k + 1))) (by rw [map_snoc HNk.out]; exact HOw7.out) HG8.out HGb.out)
      have hlen8 : (((la.take k).map fun n => Exp.lit (.whole n)) ++ [Exp.lit (.whole n)]).length = (la.take (k + 1)).length := by rw [← map_snoc HNk.out, List.length_map]
      have hlen9 : (la.take (k + 1)).length = k + 1 := by have := Hlt.out; rw [List.length_take]; omega
      have HN8 : Hid (BoxE w1.heap.size (w1.heap.size + 2) (la.take (k + 1)) w8) := Lib.hid ⟨A7, c7, by rw [← hlen8]; exact HOw8.out, by rw [hlen9]; exact HBx8.out⟩
      have HBy7 := Lib.hid ((HG7.out.block _ (Blk_lt ((Hx6.out.block _ (Blk_lt HB7.out)).trans HB7.out)) (fun e => by have := (HOw6.out.lt _ e.symm).1; omega)).trans ((Hx6.out.block _ (Blk_lt HB7.out)).trans HB7.out))
      have HX7 := Lib.hid (ext_apart HX6.out HG7.out fun b e => by have := (HOw6.out.lt b e).1; have := HX1.out.size; omega)
      have HX8 := Lib.hid (ext_apart HX7.out HG8.out fun b e => by injection e with e; have := HX1.out.size; omega)
      clear hlen8 hlen9
      have HB8 := Lib.hid ((HG8.out.block _ (Blk_lt HBy7.out) (fun e => by injection e with e; omega)).trans HBy7.out)
      go_wp2_with fail
      go_roundw
      case rel => exact ⟨k + 1, by have := Hlt.out; omega, by go_num, HN8, HB8, HX8, Lib.hid (Nat.le_trans (Nat.le_trans Hsz6.out HG7.out.size) HG8.out.size)⟩
      case measure => have := Hlt.out; simp [intOf]; omega
    · have hke : k = la.length := by omega
      subst hke
      rw [List.take_length] at HBx
      obtain ⟨xA, xc, hxb, hxe⟩ := HBx.out.at HLa.out
      have HXb := Lib.hid hxb
      have HXe := Lib.hid hxe
      have HXw := Lib.hid HXr.out
      have HSw := Lib.hid HSz.out
      have HYw := Lib.hid HB7.out
      clear hxb hxe HBx HXr HSz HB7 hlt hk
      go_wp2_with fail
      rename World => wB
      go_loopw [9, 10, 11, 12, 13, 14, 15] (fun all' some' i' _ _ _ _ wr => ∃ k : Nat, k ≤ lb.length ∧ all' = .bool ((lb.take k).all fun n => decide (n ∈ la)) ∧ some' = .bool ((lb.take k).any fun n => decide (n ∈ la)) ∧ i' = .int .i64 k ∧ Hid (BoxE (w1.heap.size + 1) wB.heap.size (lb.take k) wr) ∧ Hid (∀ b, b < wB.heap.size → b ≠ w1.heap.size + 1 → wr.heap[b]? = wB.heap[b]?) ∧ Hid (Ext W wr) ∧ Hid (wB.heap.size ≤ wr.heap.size)) (fun _ _ i' _ _ _ _ _ => lb.length - (intOf i').toNat)
      case atStart => exact ⟨0, Nat.zero_le _, rfl, rfl, rfl, Lib.hid ⟨none, 0, OwnL.nil, HYw.out⟩, Lib.hid (fun _ _ _ => rfl), HXw, Lib.hid (Nat.le_refl _)⟩
      case round =>
        obtain ⟨k, hk, rfl, rfl, rfl, HBx, HKeep, HXr, HSz⟩ := hrel
        by_cases hlt : k < lb.length
        · obtain ⟨_, _, ev, _, _, _, hwf, hr5⟩ := HB.out
          injection ev with ev1 ev2 ev3
          clear ev2
          subst ev1 ev3
          obtain ⟨b5, o5, eb, hb5, hcl⟩ := hr5 (by omega)
          clear hr5
          cases eb
          obtain ⟨n, hn⟩ : ∃ n, lb[k]? = some n := ⟨_, List.getElem?_eq_getElem hlt⟩
          have HI8 := Lib.hid (i8_in (hwf n (List.mem_of_getElem? hn)))
          have HCell0 : Hid (W.cell? ⟨b5, o5 + k * 1, none⟩ = some (.int .i8 n)) := Lib.hid (by rw [Nat.mul_one]; exact hcl k _ (by rw [List.getElem?_map, hn]; rfl))
          have HCell : Hid (wr.cell? ⟨b5, o5 + k * 1, none⟩ = some (.int .i8 n)) := Lib.hid (HXr.out.cell HCell0.out)
          obtain ⟨kA, kc, hown, hbox⟩ := HBx.out
          have HOwn := Lib.hid hown
          have HBox := Lib.hid hbox
          have HLen := Lib.hid (show (lb.take k).length ≤ 15 from by have := HLb.out; rw [List.length_take]; omega)
          have HGb := Lib.hid (show w1.heap.size + 1 < wB.heap.size from by have := HSw.out; omega)
          have Hlt := Lib.hid hlt
          have HNk := Lib.hid hn
          clear hcl hwf hn hown hbox hb5 HBx
          go_wp2_with fail
          refine region_known 10 (PutK wr (w1.heap.size + 1) (.slice kA (lb.take k).length kc) (.slice (some ⟨b5, o5, none⟩) lb.length bc) k b5 o5 n [.int .i64 1, .int .i64 2, .bool false, .int .i64 n, .string ByteArray.empty, .string ByteArray.empty, .string ByteArray.empty, .slice none 0 0, .slice none 0 0, .string ByteArray.empty, .slice none 0 0, .slice none 0 0]) (by kernel_rfl) (by kernel_rfl) (by kernel_rfl) (fun i v W W' => PutK.ext i v W W') (fun i o j b hi ho hg => ?_) (fun i o hi ho W5 c hx hold hf Q K hK => ?_) ?_
          · rcases (by omega : i = 0 ∨ i = 1 ∨ i = 2 ∨ i = 3 ∨ i = 4 ∨ i = 5 ∨ i = 6 ∨ i = 7 ∨ i = 8 ∨ i = 9) with rfl | rfl | rfl | rfl | rfl | rfl | rfl | rfl | rfl | rfl <;> obtain rfl := Option.some.inj ho <;> cases hg
          · rcases (by omega : i = 0 ∨ i = 1 ∨ i = 2 ∨ i = 3 ∨ i = 4 ∨ i = 5 ∨ i = 6 ∨ i = 7 ∨ i = 8 ∨ i = 9) with rfl | rfl | rfl | rfl | rfl | rfl | rfl | rfl | rfl | rfl <;> obtain rfl := Option.some.inj ho
            · exact wp_known (exec_field 31 _ 3 rfl (hold 7 (by kernel_rfl)) (Tryd.fieldEx3 _)) hK
            · exact wp_known (exec_load_one 29 _ rfl (w1.heap.size + 1) 10 (hf 0 59 (by omega) (by kernel_rfl) (by kernel_rfl)) Tryd.aggXs (cell_of_row _ _ 10 _ _ _ ((hx.block _ (Blk_lt HBox.out)).trans HBox.out))) hK
            · exact wp_known (exec_move rfl (hold 1 (by kernel_rfl))) hK
            · exact wp_known (exec_move rfl (hold 11 (by kernel_rfl))) hK
            · exact wp_known (exec_index rfl (hf 2 61 (by omega) (by kernel_rfl) (by kernel_rfl)) (hf 3 62 (by omega) (by kernel_rfl) (by kernel_rfl)) Tryd.und41 Tryd.siz41 Hlt.out) hK
            · exact wp_known (exec_load_one 42 _ rfl b5 (o5 + k * 1) (hf 4 63 (by omega) (by kernel_rfl) (by kernel_rfl)) Tryd.agg42 (hx.cell HCell.out)) hK
            · exact wp_known (exec_cvX rfl (hf 5 64 (by omega) (by kernel_rfl) (by kernel_rfl)) (Tryd.cv8 n HI8.out W5)) hK
            · have k1 : c.eval (.tmp 65) = .int .i64 n := (hf 6 65 (by omega) (by kernel_rfl) (by kernel_rfl))
              exact wp_known (exec_bldX rfl (by simp only [List.map_toArray, List.map_cons, List.map_nil, k1]; rfl) (Tryd.bldV n W5)) hK
            · refine wp_enters (Φ := fun v _ => v = .agg ([.int .i64 1, .int .i64 2, .bool false, .int .i64 n, .string ByteArray.empty, .string ByteArray.empty, .string ByteArray.empty, .slice none 0 0, .slice none 0 0, .string ByteArray.empty, .slice none 0 0, .slice none 0 0] : List Value).toArray) (exec_call Tryd.func6 rfl rfl rfl (map_one (hf 7 66 (by omega) (by kernel_rfl) (by kernel_rfl)))) ((lit_ok 2 false n ByteArray.empty ByteArray.empty ByteArray.empty none 0 0 none 0 0 W5).mono fun e W3 ⟨he, hx3⟩ => ⟨_, he, hx3, rfl⟩) hK
            · have k1 : c.eval (.tmp 67) = .agg ([.int .i64 1, .int .i64 2, .bool false, .int .i64 n, .string ByteArray.empty, .string ByteArray.empty, .string ByteArray.empty, .slice none 0 0, .slice none 0 0, .string ByteArray.empty, .slice none 0 0, .slice none 0 0] : List Value).toArray := (hf 8 67 (by omega) (by kernel_rfl) (by kernel_rfl))
              exact wp_leaves (Φ := (PutK wr (w1.heap.size + 1) (.slice kA (lb.take k).length kc) (.slice (some ⟨b5, o5, none⟩) lb.length bc) k b5 o5 n [.int .i64 1, .int .i64 2, .bool false, .int .i64 n, .string ByteArray.empty, .string ByteArray.empty, .string ByteArray.empty, .slice none 0 0, .slice none 0 0, .string ByteArray.empty, .slice none 0 0, .slice none 0 0]) 9) (exec_buildN _ _ _ rfl (by simp only [List.map_toArray, List.map_cons, List.map_nil, k1]) (Tryd.row1 [.int .i64 1, .int .i64 2, .bool false, .int .i64 n, .string ByteArray.empty, .string ByteArray.empty, .string ByteArray.empty, .slice none 0 0, .slice none 0 0, .string ByteArray.empty, .slice none 0 0, .slice none 0 0] rfl W5)) ((Ext.refl W5).alloc _) ⟨_, rfl, hx.size, heap_alloc_new _ _⟩ hK
          intro xs W6 hlen hx hV
          obtain ⟨x0, x1, x2, x3, x4, x5, x6, x7, x8, x9, rfl⟩ := list10n hlen
          have e1 : x1 = (.slice kA (lb.take k).length kc) := hV 1 (by omega)
          obtain ⟨A6, e9, hA1, hA2⟩ : ∃ A, x9 = .slice (some ⟨A, 0, none⟩) 1 1 ∧ wr.heap.size ≤ A ∧ W6.heap[A]? = some (.cells [.int .i64 1, .int .i64 2, .bool false, .int .i64 n, .string ByteArray.empty, .string ByteArray.empty, .string ByteArray.empty, .slice none 0 0, .slice none 0 0, .string ByteArray.empty, .slice none 0 0, .slice none 0 0].toArray 31 (0, 0)) := hV 9 (by omega)
          subst e1 e9
          have HOw6 := Lib.hid (HOwn.out.ext hx)
          have HBx6 := Lib.hid ((hx.block _ (Blk_lt HBox.out)).trans HBox.out)
          have HRow6 := Lib.hid hA2
          have HX6 := Lib.hid (HXr.out.trans hx)
          have Hx6 := Lib.hid hx
          have Hsz6 := Lib.hid (show wB.heap.size ≤ W6.heap.size from Nat.le_trans HSz.out hx.size)
          obtain ⟨i0, hi0, hz0, hz1, hz2⟩ := info_parts Tryd.infoEx
          simp only [List.take, List.drop, putAll, Act.put, List.setIfInBounds_toArray, List.set_cons_zero, List.set_cons_succ]
          clear hV hlen hA1 hA2 hx
          go_wp2_with (first | (at_builtin; refine wpList_push_all rfl (.tmp 60) (.tmp 68) 29 rfl expR wB.heap.size 31 i0 _ 192 Tryd.undXs hi0 hz0 hz1 hz2 rfl (.slice kA (lb.take k).length kc) ((lb.take k).map fun n => Exp.lit (.whole n)) [Exp.lit (.whole n)] (some ⟨A6, 0, none⟩) 1 1 [.int .i64 1, .int .i64 2, .bool false, .int .i64 n, .string ByteArray.empty, .string ByteArray.empty, .string ByteArray.empty, .slice none 0 0, .slice none 0 0, .string ByteArray.empty, .slice none 0 0, .slice none 0 0] rfl rfl HOw6.out (fun _ => ⟨A6, 0, rfl, cells_of_row HRow6.out⟩) rfl (flat_cons (cs := [.int .i64 1, .int .i64 2, .bool false, .int .i64 n, .string ByteArray.empty, .string ByteArray.empty, .string ByteArray.empty, .slice none 0 0, .slice none 0 0, .string ByteArray.empty, .slice none 0 0, .slice none 0 0]) (lit_at (whole_at _ _ n (by have := HI8.out; unfold I64; omega))) flat_nil) (by rw [maxLen_eq]; simp; have := HLen.out; omega) (by simp; have := HLen.out; omega) Hsz6.out ?_; intro v7 w7 ho7 hg7; obtain ⟨A7, c7, e7⟩ := ho7.shape; subst e7; have HOw7 := Lib.hid ho7; have HG7 := Lib.hid hg7; have HBx7 := Lib.hid ((hg7.block _ (Blk_lt HBx6.out) (fun e => by have := (HOw6.out.lt _ e.symm).1; have := HGb.out; omega)).trans HBx6.out); clear ho7 hg7) | (with_reducible refine at_store ?_; refine wpList_store_slice rfl 29 _ _ rfl (w1.heap.size + 1) 10 rfl A7 _ c7 rfl Tryd.sizXs 31 _ HBx7.out (by simp) ?_; intro w8 hb8 hg8; have HBx8 := Lib.hid hb8; have HG8 := Lib.hid hg8; clear hb8 hg8))
          have HOw8 := Lib.hid (own_keep (l := (lb.take (k + 1))) (by rw [map_snoc HNk.out]; exact HOw7.out) HG8.out HGb.out)
          have hlen8 : (((lb.take k).map fun n => Exp.lit (.whole n)) ++ [Exp.lit (.whole n)]).length = (lb.take (k + 1)).length := by rw [← map_snoc HNk.out, List.length_map]
          have hlen9 : (lb.take (k + 1)).length = k + 1 := by have := Hlt.out; rw [List.length_take]; omega
          have HN8 : Hid (BoxE (w1.heap.size + 1) wB.heap.size (lb.take (k + 1)) w8) := Lib.hid ⟨A7, c7, by rw [← hlen8]; exact HOw8.out, by rw [hlen9]; exact HBx8.out⟩
          have HX7 := Lib.hid (ext_apart HX6.out HG7.out fun b e => by have := (HOw6.out.lt b e).1; have := HX1.out.size; have := HSw.out; omega)
          have HX8 := Lib.hid (ext_apart HX7.out HG8.out fun b e => by injection e with e; have := HX1.out.size; omega)
          clear hlen8 hlen9
          have HK8 : Hid (∀ b, b < wB.heap.size → b ≠ w1.heap.size + 1 → w8.heap[b]? = wB.heap[b]?) := Lib.hid fun b hb hne => (HG8.out.block b (by have := HSz.out; have := Hx6.out.size; have := HG7.out.size; omega) (fun e => by injection e with e; omega)).trans ((HG7.out.block b (by have := HSz.out; have := Hx6.out.size; omega) (fun e => by have := (HOw6.out.lt _ e.symm).1; omega)).trans ((Hx6.out.block b (by have := HSz.out; omega)).trans (HKeep.out b hb hne)))
          have HS8 := Lib.hid (show wB.heap.size ≤ w8.heap.size from Nat.le_trans (Nat.le_trans Hsz6.out HG7.out.size) HG8.out.size)
          clear HOw6 HBx6 HRow6 HX6 Hx6 Hsz6 HOw7 HG7 HBx7 HBx8 HG8 HOw8 HX7 HKeep HXr HSz HOwn HBox HCell
          go_wp2_with fail
          go_loopw [12, 13] (fun in' m' wr => ∃ m : Nat, m ≤ la.length ∧ in' = .bool ((la.take m).any fun x => x == n) ∧ m' = .int .i64 m ∧ Hid (Ext w8 wr)) (fun _ m' _ => la.length - (intOf m').toNat)
          case atStart => exact ⟨0, Nat.zero_le _, rfl, rfl, Lib.hid (Ext.refl w8)⟩
          case round =>
            obtain ⟨m, hm, rfl, rfl, HXq⟩ := hrel
            by_cases hlm : m < la.length
            · obtain ⟨_, _, ev, _, _, _, hwf, hr5⟩ := HA.out
              injection ev with ev1 ev2 ev3
              clear ev2
              subst ev1 ev3
              obtain ⟨a5, p5, eb, ha5, hcl⟩ := hr5 (by omega)
              clear hr5
              cases eb
              obtain ⟨x, hx⟩ : ∃ x, la[m]? = some x := ⟨_, List.getElem?_eq_getElem hlm⟩
              have HAx := Lib.hid hx
              have Hlm := Lib.hid hlm
              have g0 := cell_regrown (show wr.cell? ⟨a5, p5 + m, none⟩ = some (.int .i8 x) from HXq.out.cell (HX8.out.cell (by exact hcl m _ (by rw [List.getElem?_map, hx]; rfl))))
              have g1 := cell_regrown (show wr.cell? ⟨b5, o5 + k, none⟩ = some (.int .i8 n) from HXq.out.cell (HX8.out.cell (by have h := HCell0.out; rwa [Nat.mul_one] at h)))
              have hkl := Hlt.out
              obtain ⟨ti, hti⟩ : ∃ t, ((la.take m).any fun x => x == n) = t := ⟨_, rfl⟩
              rw [hti]
              have HTi := Lib.hid hti
              clear hcl hwf hx hti ha5
              cases ti
              all_goals
                go_wp2_with fail
                refine region_later (by kernel_rfl) (by kernel_rfl) ?_
                iterate 13 (go_big_quiet_step (fail))
                refine wpQuiet_nil ?_
                intro w9 hw9
                have HX9 := Lib.hid (HXq.out.trans hw9)
                clear hw9
                go_wp2_with fail
                go_roundw
                case rel => exact ⟨m + 1, by have := Hlm.out; omega, by rw [any_succ HAx.out, HTi.out] <;> rfl, by go_num, HX9⟩
                case measure => have := Hlm.out; simp [intOf]; omega
            · have hme : m = la.length := by omega
              subst hme
              rw [List.take_length, any_mem]
              obtain ⟨tb, htb⟩ : ∃ t, decide (n ∈ la) = t := ⟨_, rfl⟩
              rw [htb]
              have HTb := Lib.hid htb
              obtain ⟨A8, kcap, hown, hbox⟩ := HN8.out
              obtain ⟨kb, ko, cs, eA, hc, hat⟩ := hown.at' (by rw [LIM_eq]; simp; have := HLb.out; omega) (i := k) (x := .lit (.whole n)) (by rw [List.getElem?_map, List.getElem?_take, if_pos (by omega), HNk.out]; rfl)
              subst eA
              have hkb := hown.lt kb rfl
              have HKb := Lib.hid (show kb < wr.heap.size from Nat.lt_of_lt_of_le hkb.2 HXq.out.size)
              have HKl := Lib.hid (show cs.length = 12 from hat.length)
              have HKc := Lib.hid (show CellsAt wr kb (ko + k * 12) cs from hc.alike (S := fun b => b < w8.heap.size) hkb.2 (Alike.of_ext HXq.out fun _ h => h))
              have HKa := Lib.hid (show Exp.At (fun b => b < wr.heap.size) wr (.lit (.whole n)) cs from Exp.At.mono (fun b hb => Nat.lt_of_lt_of_le hb HXq.out.size) _ _ (Exp.At.alike (Alike.of_ext HXq.out fun _ h => h) _ _ hat))
              have hlk : (lb.take (k + 1)).length = k + 1 := by have := Hlt.out; rw [List.length_take]; omega
              rw [hlk] at hbox
              have HBk := Lib.hid ((HXq.out.block _ (Blk_lt hbox)).trans hbox)
              have HX68 := Lib.hid ((HK8.out w1.heap.size (by have := HSw.out; omega) (by omega)).trans HXb.out)
              have HXk := Lib.hid ((HXq.out.block _ (Blk_lt HX68.out)).trans HX68.out)
              have HXi := Lib.hid (show Exp.At (fun b => b < wr.heap.size) wr (setE la) [.int .i64 19, .int .i64 0, .bool false, .int .i64 0, .string ByteArray.empty, .string ByteArray.empty, .string ByteArray.empty, .slice none 0 0, .slice none 0 0, .string ByteArray.empty, .slice xA la.length xc, .slice none 0 0] from Exp.At.mono (fun b hb => Nat.lt_of_lt_of_le hb.2 (Nat.le_trans HS8.out HXq.out.size)) _ _ (Exp.At.alike (fun b hb => (HXq.out.block b (Nat.lt_of_lt_of_le hb.2 HS8.out)).trans (HK8.out b hb.2 (by have := hb.1; omega))) _ _ HXe.out))
              have hkl := Hlt.out
              obtain ⟨tall, hall⟩ : ∃ t, ((lb.take k).all fun n => decide (n ∈ la)) = t := ⟨_, rfl⟩
              obtain ⟨tsome, hsome⟩ : ∃ t, ((lb.take k).any fun n => decide (n ∈ la)) = t := ⟨_, rfl⟩
              have HAll := Lib.hid hall
              have HSome := Lib.hid hsome
              clear htb hown hbox hc hat hkb hlk hall hsome hlm hm
              rw [HAll.out, HSome.out]
              cases tall <;> cases tsome
              all_goals
                go_wp2_with fail
                refine region_askV (fun b => b < wr.heap.size) wr.heap.size 9 16 107 97 108 109 14 rfl (HasV wr (w1.heap.size + 1) (.slice (some ⟨kb, ko, none⟩) (k + 1) kcap) k kb ko [.int .i64 19, .int .i64 0, .bool false, .int .i64 0, .string ByteArray.empty, .string ByteArray.empty, .string ByteArray.empty, .slice none 0 0, .slice none 0 0, .string ByteArray.empty, .slice xA la.length xc, .slice none 0 0] cs) (.truth tb, 0) (by kernel_rfl) (by kernel_rfl) (by kernel_rfl) (fun _ h => h) (Nat.le_refl _) (fun i v W W' _ h _ k => h.ext i v W W' k) (fun i v W g cur row _ h _ _ hc => h.row i v W hc)
                  ⟨_, _, _, _, _, _, _, rfl, rfl, rfl, rfl, rfl, rfl, rfl, rfl, rfl, rfl, rfl, rfl, rfl⟩ ⟨by kernel_rfl, by kernel_rfl, by kernel_rfl, by kernel_rfl, by kernel_rfl⟩ ⟨by kernel_rfl, by kernel_rfl, by kernel_rfl, by kernel_rfl, by kernel_rfl, by kernel_rfl⟩ (fun i o hi ho W5 c hx hold hf Q K hK => ?_) (fun o ho W5 c hx hold hf => ?_) (fun xs W9 z cv g hlen hx hV hp hg hrow hz hat he => ?_)
                · rcases (by omega : i = 0 ∨ i = 1 ∨ i = 2 ∨ i = 3 ∨ i = 4 ∨ i = 5 ∨ i = 6 ∨ i = 7 ∨ i = 8) with rfl | rfl | rfl | rfl | rfl | rfl | rfl | rfl | rfl <;> obtain rfl := Option.some.inj ho
                  · exact wp_known (exec_load_cells 31 _ rfl w1.heap.size 0 (hold 6 (by kernel_rfl)) Tryd.aggEx Tryd.sizeEx (cs := [.int .i64 19, .int .i64 0, .bool false, .int .i64 0, .string ByteArray.empty, .string ByteArray.empty, .string ByteArray.empty, .slice none 0 0, .slice none 0 0, .string ByteArray.empty, .slice xA la.length xc, .slice none 0 0]) rfl (cells_of_row ((hx.block _ (Blk_lt HXk.out)).trans HXk.out))) hK
                  · exact wp_known (exec_field 31 _ 3 rfl (hold 7 (by kernel_rfl)) (Tryd.fieldEx3 _)) hK
                  · exact wp_known (exec_load_one 29 _ rfl (w1.heap.size + 1) 10 (hf 1 99 (by omega) (by kernel_rfl) (by kernel_rfl)) Tryd.aggXs (cell_of_row _ _ 10 _ _ _ ((hx.block _ (Blk_lt HBk.out)).trans HBk.out))) hK
                  · exact wp_known (exec_move rfl (hold 11 (by kernel_rfl))) hK
                  · exact wp_known (exec_index rfl (hf 2 100 (by omega) (by kernel_rfl) (by kernel_rfl)) (hf 3 101 (by omega) (by kernel_rfl) (by kernel_rfl)) Tryd.undXs Tryd.sizXe (by omega)) hK
                  · exact wp_known (exec_load_cells 31 _ rfl kb (ko + k * 12) (hf 4 102 (by omega) (by kernel_rfl) (by kernel_rfl)) Tryd.aggEx Tryd.sizeEx (cs := cs) HKl.out (HKc.out.alike (S := fun b => b < wr.heap.size) HKb.out (Alike.of_ext hx fun _ h => h))) hK
                  · have k1 : c.eval (.tmp 98) = .agg ([.int .i64 19, .int .i64 0, .bool false, .int .i64 0, .string ByteArray.empty, .string ByteArray.empty, .string ByteArray.empty, .slice none 0 0, .slice none 0 0, .string ByteArray.empty, .slice xA la.length xc, .slice none 0 0] : List Value).toArray := (hf 0 98 (by omega) (by kernel_rfl) (by kernel_rfl))
                    have k2 : c.eval (.tmp 103) = .agg cs.toArray := (hf 5 103 (by omega) (by kernel_rfl) (by kernel_rfl))
                    exact wp_leaves (Φ := (HasV wr (w1.heap.size + 1) (.slice (some ⟨kb, ko, none⟩) (k + 1) kcap) k kb ko [.int .i64 19, .int .i64 0, .bool false, .int .i64 0, .string ByteArray.empty, .string ByteArray.empty, .string ByteArray.empty, .slice none 0 0, .slice none 0 0, .string ByteArray.empty, .slice xA la.length xc, .slice none 0 0] cs) 6) (exec_buildN _ _ _ rfl (by simp only [List.map_toArray, List.map_cons, List.map_nil, k1, k2]) (Tryd.rowN2 [.int .i64 19, .int .i64 0, .bool false, .int .i64 0, .string ByteArray.empty, .string ByteArray.empty, .string ByteArray.empty, .slice none 0 0, .slice none 0 0, .string ByteArray.empty, .slice xA la.length xc, .slice none 0 0] cs rfl HKl.out W5)) ((Ext.refl W5).alloc _) ⟨_, rfl, hx.size, heap_alloc_new _ _⟩ hK
                  · obtain ⟨A, k2, h1, h2⟩ := (hf 6 104 (by omega) (by kernel_rfl) (by kernel_rfl))
                    exact wp_leaves (Φ := (HasV wr (w1.heap.size + 1) (.slice (some ⟨kb, ko, none⟩) (k + 1) kcap) k kb ko [.int .i64 19, .int .i64 0, .bool false, .int .i64 0, .string ByteArray.empty, .string ByteArray.empty, .string ByteArray.empty, .slice none 0 0, .slice none 0 0, .string ByteArray.empty, .slice xA la.length xc, .slice none 0 0] cs) 7) (exec_bldX rfl (by simp only [List.map_toArray, List.map_cons, List.map_nil, k2]; rfl) (Tryd.bldN 21 _ _ _ W5)) (Ext.refl W5) ⟨A, rfl, h1, h2⟩ hK
                  · exact wp_known (exec_bldX rfl (by simp only [List.map_toArray, List.map_nil]) (Tryd.bldQ W5)) hK
                · obtain rfl := Option.some.inj ho
                  obtain ⟨A, k1, hr1, hr2⟩ := (hf 7 105 (by omega) (by kernel_rfl) (by kernel_rfl))
                  have hk : expR.RowsAt (fun b => b < W5.heap.size) W5 [setE la, .lit (.whole n)] (.slice (some ⟨A, 0, none⟩) 2 2) := kids_at (xs := [.int .i64 19, .int .i64 0, .bool false, .int .i64 0, .string ByteArray.empty, .string ByteArray.empty, .string ByteArray.empty, .slice none 0 0, .slice none 0 0, .string ByteArray.empty, .slice xA la.length xc, .slice none 0 0] ++ cs) hr2 (flat_cons (cs := [.int .i64 19, .int .i64 0, .bool false, .int .i64 0, .string ByteArray.empty, .string ByteArray.empty, .string ByteArray.empty, .slice none 0 0, .slice none 0 0, .string ByteArray.empty, .slice xA la.length xc, .slice none 0 0]) (Exp.At.mono (fun b hb => Nat.lt_of_lt_of_le hb hx.size) _ _ (Exp.At.alike (Alike.of_ext hx fun _ h => h) _ _ HXi.out)) (flat_one (cs := cs) (Exp.At.mono (fun b hb => Nat.lt_of_lt_of_le hb hx.size) _ _ (Exp.At.alike (Alike.of_ext hx fun _ h => h) _ _ HKa.out)))) (by rw [LIM_eq]; simp) rfl (by simp) (by rw [maxLen_eq]; omega)
                  refine ⟨_, _, exec_call Tryd.func7 rfl rfl rfl (map_three k1 (hf 8 106 (by omega) (by kernel_rfl) (by kernel_rfl)) rfl), (evalS_ok (.of 21 [setE la, .lit (.whole n)]) (.truth tb, 0) W5 (opC 21 (.slice (some ⟨A, 0, none⟩) 2 2)) (by rw [sets_one _ _ _ _ (by have := HLa.out; omega), HTb.out]; rfl) (by rw [Exp.of_dep]; have := setE_dep la; simp only [Exp.deps, Exp.lit_dep]; omega) (Exp.of_lits (by omega) (by intro x hx; simp at hx; rcases hx with rfl | rfl; exact setE_lits _; exact whole_lits _)) (by rw [Exp.of, Exp.ops, Exp.opsL_iff]; exact ⟨by simp [Set4], by intro x hx; simp at hx; rcases hx with rfl | rfl; exact setE_ops _; exact lit_set _⟩) (of_at (by unfold I64; omega) hk) ((HS.out.ext HX8.out).ext (HXq.out.trans hx))).mono fun e w' h => refAns_fresh h⟩
                · obtain ⟨p0, p1, p2, p3, p4, p5', p6, p7, p8, p9, s0, s1, s2, s3, s4, s5, rfl⟩ := list16n hlen
                  have hp : s3 = .pointer (some ⟨g, 0, none⟩) := hp
                  have he : s5 = .int .i64 0 := he
                  obtain rfl : z = .truth tb := hz rfl
                  subst hp he
                  obtain ⟨zA, zc, zB, zd, rfl⟩ := hat.opened
                  simp only [List.take, List.drop, putAll, Act.put, List.setIfInBounds_toArray, List.set_cons_zero, List.set_cons_succ]
                  have f1 : W9.cell? ⟨g, 1, none⟩ = some (.bool tb) := cell_of_row _ _ 1 _ _ _ hrow
                  have HXf := Lib.hid (HXq.out.trans hx)
                  have q1 : (tb != tb) = false := by simp
                  clear hV hlen hx hp hg hrow hz hat he
                  go_wp2_with fail
                  go_roundw
                  case rel => exact ⟨k + 1, by have := Hlt.out; omega, by rw [all_succ HNk.out, HAll.out, HTb.out] <;> rfl, by rw [any_succ (f := fun n => decide (n ∈ la)) HNk.out, HSome.out, HTb.out] <;> rfl, by go_num, Lib.hid (HN8.out.ext HXf.out), Lib.hid (fun b hb hne => (HXf.out.block b (Nat.lt_of_lt_of_le hb HS8.out)).trans (HK8.out b hb hne)), Lib.hid (HX8.out.trans HXf.out), Lib.hid (Nat.le_trans HS8.out HXf.out.size)⟩
                  case measure => have := Hlt.out; simp [intOf]; omega
        · have hke : k = lb.length := by omega
          subst hke
          rw [List.take_length] at HBx ⊢
          obtain ⟨yA, yc, hyb, hye⟩ := HBx.out.at HLb.out
          obtain ⟨wE, hwE⟩ : ∃ x, wr = x := ⟨_, rfl⟩
          rw [hwE] at hyb hye HKeep HXr HSz ⊢
          clear hwE
          have HX68 := Lib.hid ((HKeep.out w1.heap.size (by have := HSw.out; omega) (by omega)).trans HXb.out)
          have HAE : Hid (wE.heap[w1.heap.size]? = some (.cells #[.int .i64 19, .int .i64 0, .bool false, .int .i64 0, .string ByteArray.empty, .string ByteArray.empty, .string ByteArray.empty, .slice none 0 0, .slice none 0 0, .string ByteArray.empty, .slice xA la.length xc, .slice none 0 0] 31 (0, 0))) := HX68
          have HBE := Lib.hid hyb
          have HXi : Hid (Exp.At (fun b => b < wE.heap.size) wE (setE la) [.int .i64 19, .int .i64 0, .bool false, .int .i64 0, .string ByteArray.empty, .string ByteArray.empty, .string ByteArray.empty, .slice none 0 0, .slice none 0 0, .string ByteArray.empty, .slice xA la.length xc, .slice none 0 0]) := Lib.hid (Exp.At.mono (fun b hb => Nat.lt_of_lt_of_le hb.2 HSz.out) _ _ (Exp.At.alike (fun b hb => HKeep.out b hb.2 (by have := hb.1; omega)) _ _ HXe.out))
          have HYi : Hid (Exp.At (fun b => b < wE.heap.size) wE (setE lb) [.int .i64 19, .int .i64 0, .bool false, .int .i64 0, .string ByteArray.empty, .string ByteArray.empty, .string ByteArray.empty, .slice none 0 0, .slice none 0 0, .string ByteArray.empty, .slice yA lb.length yc, .slice none 0 0]) := Lib.hid (Exp.At.mono (fun b hb => hb.2) _ _ hye)
          have HSE := Lib.hid (HS.out.ext HXr.out)
          have HE10 := Lib.hid (Ext.refl wE)
          obtain ⟨tall, hall⟩ : ∃ t, (lb.all fun n => decide (n ∈ la)) = t := ⟨_, rfl⟩
          obtain ⟨tsome, hsome⟩ : ∃ t, (lb.any fun n => decide (n ∈ la)) = t := ⟨_, rfl⟩
          have HAll := Lib.hid hall
          have HSome := Lib.hid hsome
          rw [hall, hsome]
          clear hyb hye HKeep HBx hall hsome hlt hk HX68
          go_wp2_with (first | (with_reducible refine at_load ?_; refine wpList_load_cells rfl 31 _ rfl w1.heap.size 0 rfl Tryd.aggEx Tryd.sizeEx (cs := [.int .i64 19, .int .i64 0, .bool false, .int .i64 0, .string ByteArray.empty, .string ByteArray.empty, .string ByteArray.empty, .slice none 0 0, .slice none 0 0, .string ByteArray.empty, .slice xA la.length xc, .slice none 0 0]) rfl (cells_of_row HAE.out) ?_) | (with_reducible refine at_load ?_; refine wpList_load_cells rfl 31 _ rfl (w1.heap.size + 1) 0 rfl Tryd.aggEx Tryd.sizeEx (cs := [.int .i64 19, .int .i64 0, .bool false, .int .i64 0, .string ByteArray.empty, .string ByteArray.empty, .string ByteArray.empty, .slice none 0 0, .slice none 0 0, .string ByteArray.empty, .slice yA lb.length yc, .slice none 0 0]) rfl (cells_of_row HBE.out) ?_))
          obtain ⟨x11, hW⟩ : ∃ W, W = wE.alloc (.cells #[.int .i64 19, .int .i64 0, .bool false, .int .i64 0, .string ByteArray.empty, .string ByteArray.empty, .string ByteArray.empty, .slice none 0 0, .slice none 0 0, .string ByteArray.empty, .slice xA la.length xc, .slice none 0 0, .int .i64 19, .int .i64 0, .bool false, .int .i64 0, .string ByteArray.empty, .string ByteArray.empty, .string ByteArray.empty, .slice none 0 0, .slice none 0 0, .string ByteArray.empty, .slice yA lb.length yc, .slice none 0 0] 31) := ⟨_, rfl⟩
          have HR := Lib.hid (show x11.heap[wE.heap.size]? = some (.cells #[.int .i64 19, .int .i64 0, .bool false, .int .i64 0, .string ByteArray.empty, .string ByteArray.empty, .string ByteArray.empty, .slice none 0 0, .slice none 0 0, .string ByteArray.empty, .slice xA la.length xc, .slice none 0 0, .int .i64 19, .int .i64 0, .bool false, .int .i64 0, .string ByteArray.empty, .string ByteArray.empty, .string ByteArray.empty, .slice none 0 0, .slice none 0 0, .string ByteArray.empty, .slice yA lb.length yc, .slice none 0 0] 31 (0, 0)) by rw [hW]; exact heap_alloc_new _ _)
          have hxx : Ext wE x11 := by rw [hW]; exact (Ext.refl _).alloc _
          rw [← hW]
          clear hW
          have hk : expR.RowsAt (fun b => b < x11.heap.size) x11 [setE la, setE lb] (.slice (some ⟨wE.heap.size, 0, none⟩) 2 2) := kids_at (xs := [.int .i64 19, .int .i64 0, .bool false, .int .i64 0, .string ByteArray.empty, .string ByteArray.empty, .string ByteArray.empty, .slice none 0 0, .slice none 0 0, .string ByteArray.empty, .slice xA la.length xc, .slice none 0 0, .int .i64 19, .int .i64 0, .bool false, .int .i64 0, .string ByteArray.empty, .string ByteArray.empty, .string ByteArray.empty, .slice none 0 0, .slice none 0 0, .string ByteArray.empty, .slice yA lb.length yc, .slice none 0 0]) HR.out (flat_cons (cs := [.int .i64 19, .int .i64 0, .bool false, .int .i64 0, .string ByteArray.empty, .string ByteArray.empty, .string ByteArray.empty, .slice none 0 0, .slice none 0 0, .string ByteArray.empty, .slice xA la.length xc, .slice none 0 0]) (Exp.At.mono (fun b hb => Nat.lt_of_lt_of_le hb (HE10.out.trans hxx).size) _ _ (Exp.At.alike (Alike.of_ext (HE10.out.trans hxx) fun _ h => h) _ _ HXi.out)) (flat_cons (cs := [.int .i64 19, .int .i64 0, .bool false, .int .i64 0, .string ByteArray.empty, .string ByteArray.empty, .string ByteArray.empty, .slice none 0 0, .slice none 0 0, .string ByteArray.empty, .slice yA lb.length yc, .slice none 0 0]) (Exp.At.mono (fun b hb => Nat.lt_of_lt_of_le hb (HE10.out.trans hxx).size) _ _ (Exp.At.alike (Alike.of_ext (HE10.out.trans hxx) fun _ h => h) _ _ HYi.out)) flat_nil)) (by rw [LIM_eq]; simp) rfl (by simp) (by rw [maxLen_eq]; omega)
          have hc := evalS_ok (.of 22 [setE la, setE lb]) (.truth tall, 0) x11 (opC 22 (.slice (some ⟨wE.heap.size, 0, none⟩) 2 2)) (by rw [sets_two _ _ _ (by omega) _ _ (by have := HLa.out; omega) (by have := HLb.out; omega), if_neg (by omega), not_any, HAll.out]; rfl) (by rw [Exp.of_dep]; have := setE_dep la; have := setE_dep lb; simp only [Exp.deps]; omega) (Exp.of_lits (by omega) (by intro x hx; simp at hx; rcases hx with rfl | rfl <;> exact setE_lits _)) (by rw [Exp.of, Exp.ops, Exp.opsL_iff]; exact ⟨by simp [Set4], by intro x hx; simp at hx; rcases hx with rfl | rfl <;> exact setE_ops _⟩) (of_at (by unfold I64; omega) hk) (HSE.out.ext (HE10.out.trans hxx))
          refine hc.mono ?_
          rintro e11 w11 ⟨cv, rfl, hv, hx11⟩
          obtain ⟨zA11, zc11, zB11, zd11, rfl⟩ := hv.opened
          have hxx := (hxx.trans hx11).alloc (.cells #[.int .i64 1, .bool tall, .int .i64 0, .string ByteArray.empty, .string ByteArray.empty, .string ByteArray.empty, .slice zA11 0 zc11, .slice zB11 0 zd11] 28)
          have HE11 := Lib.hid (HE10.out.trans hxx)
          have HP11 := Lib.hid (heap_alloc_new w11 (.cells #[.int .i64 1, .bool tall, .int .i64 0, .string ByteArray.empty, .string ByteArray.empty, .string ByteArray.empty, .slice zA11 0 zc11, .slice zB11 0 zd11] 28))
          clear hk hc hv hx11 HR hxx HE10 
          go_wp2_with (first | (with_reducible refine at_load ?_; refine wpList_load_cells rfl 31 _ rfl w1.heap.size 0 rfl Tryd.aggEx Tryd.sizeEx (cs := [.int .i64 19, .int .i64 0, .bool false, .int .i64 0, .string ByteArray.empty, .string ByteArray.empty, .string ByteArray.empty, .slice none 0 0, .slice none 0 0, .string ByteArray.empty, .slice xA la.length xc, .slice none 0 0]) rfl (cells_of_row ((HE11.out.block _ (Blk_lt HAE.out)).trans HAE.out)) ?_) | (with_reducible refine at_load ?_; refine wpList_load_cells rfl 31 _ rfl (w1.heap.size + 1) 0 rfl Tryd.aggEx Tryd.sizeEx (cs := [.int .i64 19, .int .i64 0, .bool false, .int .i64 0, .string ByteArray.empty, .string ByteArray.empty, .string ByteArray.empty, .slice none 0 0, .slice none 0 0, .string ByteArray.empty, .slice yA lb.length yc, .slice none 0 0]) rfl (cells_of_row ((HE11.out.block _ (Blk_lt HBE.out)).trans HBE.out)) ?_))
          obtain ⟨w11', hW⟩ : ∃ W, W = w11.alloc (.cells #[.int .i64 1, .bool tall, .int .i64 0, .string ByteArray.empty, .string ByteArray.empty, .string ByteArray.empty, .slice zA11 0 zc11, .slice zB11 0 zd11] 28) := ⟨_, rfl⟩
          rw [← hW] at HE11 HP11 ⊢
          have Hsz := Lib.hid (show w11'.heap.size = w11.heap.size + 1 by rw [hW]; simp)
          clear hW
          obtain ⟨x12, hW⟩ : ∃ W, W = w11'.alloc (.cells #[.int .i64 19, .int .i64 0, .bool false, .int .i64 0, .string ByteArray.empty, .string ByteArray.empty, .string ByteArray.empty, .slice none 0 0, .slice none 0 0, .string ByteArray.empty, .slice xA la.length xc, .slice none 0 0, .int .i64 19, .int .i64 0, .bool false, .int .i64 0, .string ByteArray.empty, .string ByteArray.empty, .string ByteArray.empty, .slice none 0 0, .slice none 0 0, .string ByteArray.empty, .slice yA lb.length yc, .slice none 0 0] 31) := ⟨_, rfl⟩
          have HR := Lib.hid (show x12.heap[w11.heap.size + 1]? = some (.cells #[.int .i64 19, .int .i64 0, .bool false, .int .i64 0, .string ByteArray.empty, .string ByteArray.empty, .string ByteArray.empty, .slice none 0 0, .slice none 0 0, .string ByteArray.empty, .slice xA la.length xc, .slice none 0 0, .int .i64 19, .int .i64 0, .bool false, .int .i64 0, .string ByteArray.empty, .string ByteArray.empty, .string ByteArray.empty, .slice none 0 0, .slice none 0 0, .string ByteArray.empty, .slice yA lb.length yc, .slice none 0 0] 31 (0, 0)) by rw [hW, ← Hsz.out]; exact heap_alloc_new _ _)
          have hxx : Ext w11' x12 := by rw [hW]; exact (Ext.refl _).alloc _
          rw [← hW]
          clear hW
          have hk : expR.RowsAt (fun b => b < x12.heap.size) x12 [setE la, setE lb] (.slice (some ⟨w11.heap.size + 1, 0, none⟩) 2 2) := kids_at (xs := [.int .i64 19, .int .i64 0, .bool false, .int .i64 0, .string ByteArray.empty, .string ByteArray.empty, .string ByteArray.empty, .slice none 0 0, .slice none 0 0, .string ByteArray.empty, .slice xA la.length xc, .slice none 0 0, .int .i64 19, .int .i64 0, .bool false, .int .i64 0, .string ByteArray.empty, .string ByteArray.empty, .string ByteArray.empty, .slice none 0 0, .slice none 0 0, .string ByteArray.empty, .slice yA lb.length yc, .slice none 0 0]) HR.out (flat_cons (cs := [.int .i64 19, .int .i64 0, .bool false, .int .i64 0, .string ByteArray.empty, .string ByteArray.empty, .string ByteArray.empty, .slice none 0 0, .slice none 0 0, .string ByteArray.empty, .slice xA la.length xc, .slice none 0 0]) (Exp.At.mono (fun b hb => Nat.lt_of_lt_of_le hb (HE11.out.trans hxx).size) _ _ (Exp.At.alike (Alike.of_ext (HE11.out.trans hxx) fun _ h => h) _ _ HXi.out)) (flat_cons (cs := [.int .i64 19, .int .i64 0, .bool false, .int .i64 0, .string ByteArray.empty, .string ByteArray.empty, .string ByteArray.empty, .slice none 0 0, .slice none 0 0, .string ByteArray.empty, .slice yA lb.length yc, .slice none 0 0]) (Exp.At.mono (fun b hb => Nat.lt_of_lt_of_le hb (HE11.out.trans hxx).size) _ _ (Exp.At.alike (Alike.of_ext (HE11.out.trans hxx) fun _ h => h) _ _ HYi.out)) flat_nil)) (by rw [LIM_eq]; simp) rfl (by simp) (by rw [maxLen_eq]; omega)
          have hc := evalS_ok (.of 23 [setE la, setE lb]) (.truth tsome, 0) x12 (opC 23 (.slice (some ⟨w11.heap.size + 1, 0, none⟩) 2 2)) (by rw [sets_two _ _ _ (by omega) _ _ (by have := HLa.out; omega) (by have := HLb.out; omega), if_pos rfl, HSome.out]; rfl) (by rw [Exp.of_dep]; have := setE_dep la; have := setE_dep lb; simp only [Exp.deps]; omega) (Exp.of_lits (by omega) (by intro x hx; simp at hx; rcases hx with rfl | rfl <;> exact setE_lits _)) (by rw [Exp.of, Exp.ops, Exp.opsL_iff]; exact ⟨by simp [Set4], by intro x hx; simp at hx; rcases hx with rfl | rfl <;> exact setE_ops _⟩) (of_at (by unfold I64; omega) hk) (HSE.out.ext (HE11.out.trans hxx))
          refine hc.mono ?_
          rintro e12 w12 ⟨cv, rfl, hv, hx12⟩
          obtain ⟨zA12, zc12, zB12, zd12, rfl⟩ := hv.opened
          have hxx := (hxx.trans hx12).alloc (.cells #[.int .i64 1, .bool tsome, .int .i64 0, .string ByteArray.empty, .string ByteArray.empty, .string ByteArray.empty, .slice zA12 0 zc12, .slice zB12 0 zd12] 28)
          have HP12 := Lib.hid ((hxx.block _ (Blk_lt HP11.out)).trans HP11.out)
          have HE12 := Lib.hid (HE11.out.trans hxx)
          have HQ12 := Lib.hid (heap_alloc_new w12 (.cells #[.int .i64 1, .bool tsome, .int .i64 0, .string ByteArray.empty, .string ByteArray.empty, .string ByteArray.empty, .slice zA12 0 zc12, .slice zB12 0 zd12] 28))
          clear hk hc hv hx12 HR hxx Hsz HE11 HP11
          go_wp2_with (first | (with_reducible refine at_load ?_; refine wpList_load_cells rfl 31 _ rfl w1.heap.size 0 rfl Tryd.aggEx Tryd.sizeEx (cs := [.int .i64 19, .int .i64 0, .bool false, .int .i64 0, .string ByteArray.empty, .string ByteArray.empty, .string ByteArray.empty, .slice none 0 0, .slice none 0 0, .string ByteArray.empty, .slice xA la.length xc, .slice none 0 0]) rfl (cells_of_row ((HE12.out.block _ (Blk_lt HAE.out)).trans HAE.out)) ?_) | (with_reducible refine at_load ?_; refine wpList_load_cells rfl 31 _ rfl (w1.heap.size + 1) 0 rfl Tryd.aggEx Tryd.sizeEx (cs := [.int .i64 19, .int .i64 0, .bool false, .int .i64 0, .string ByteArray.empty, .string ByteArray.empty, .string ByteArray.empty, .slice none 0 0, .slice none 0 0, .string ByteArray.empty, .slice yA lb.length yc, .slice none 0 0]) rfl (cells_of_row ((HE12.out.block _ (Blk_lt HBE.out)).trans HBE.out)) ?_))
          obtain ⟨w12', hW⟩ : ∃ W, W = w12.alloc (.cells #[.int .i64 1, .bool tsome, .int .i64 0, .string ByteArray.empty, .string ByteArray.empty, .string ByteArray.empty, .slice zA12 0 zc12, .slice zB12 0 zd12] 28) := ⟨_, rfl⟩
          rw [← hW] at HE12 HP12 HQ12 ⊢
          have Hsz := Lib.hid (show w12'.heap.size = w12.heap.size + 1 by rw [hW]; simp)
          clear hW
          obtain ⟨x13, hW⟩ : ∃ W, W = w12'.alloc (.cells #[.int .i64 19, .int .i64 0, .bool false, .int .i64 0, .string ByteArray.empty, .string ByteArray.empty, .string ByteArray.empty, .slice none 0 0, .slice none 0 0, .string ByteArray.empty, .slice xA la.length xc, .slice none 0 0, .int .i64 19, .int .i64 0, .bool false, .int .i64 0, .string ByteArray.empty, .string ByteArray.empty, .string ByteArray.empty, .slice none 0 0, .slice none 0 0, .string ByteArray.empty, .slice xA la.length xc, .slice none 0 0] 31) := ⟨_, rfl⟩
          have HRr := Lib.hid (show x13.heap[w12.heap.size + 1]? = some (.cells #[.int .i64 19, .int .i64 0, .bool false, .int .i64 0, .string ByteArray.empty, .string ByteArray.empty, .string ByteArray.empty, .slice none 0 0, .slice none 0 0, .string ByteArray.empty, .slice xA la.length xc, .slice none 0 0, .int .i64 19, .int .i64 0, .bool false, .int .i64 0, .string ByteArray.empty, .string ByteArray.empty, .string ByteArray.empty, .slice none 0 0, .slice none 0 0, .string ByteArray.empty, .slice xA la.length xc, .slice none 0 0] 31 (0, 0)) by rw [hW, ← Hsz.out]; exact heap_alloc_new _ _)
          have hxx : Ext w12' x13 := by rw [hW]; exact (Ext.refl _).alloc _
          rw [← hW]
          clear hW
          have hk : expR.RowsAt (fun b => b < x13.heap.size) x13 [setE la, setE la] (.slice (some ⟨w12.heap.size + 1, 0, none⟩) 2 2) := kids_at (xs := [.int .i64 19, .int .i64 0, .bool false, .int .i64 0, .string ByteArray.empty, .string ByteArray.empty, .string ByteArray.empty, .slice none 0 0, .slice none 0 0, .string ByteArray.empty, .slice xA la.length xc, .slice none 0 0, .int .i64 19, .int .i64 0, .bool false, .int .i64 0, .string ByteArray.empty, .string ByteArray.empty, .string ByteArray.empty, .slice none 0 0, .slice none 0 0, .string ByteArray.empty, .slice xA la.length xc, .slice none 0 0]) HRr.out (flat_cons (cs := [.int .i64 19, .int .i64 0, .bool false, .int .i64 0, .string ByteArray.empty, .string ByteArray.empty, .string ByteArray.empty, .slice none 0 0, .slice none 0 0, .string ByteArray.empty, .slice xA la.length xc, .slice none 0 0]) (Exp.At.mono (fun b hb => Nat.lt_of_lt_of_le hb (HE12.out.trans hxx).size) _ _ (Exp.At.alike (Alike.of_ext (HE12.out.trans hxx) fun _ h => h) _ _ HXi.out)) (flat_cons (cs := [.int .i64 19, .int .i64 0, .bool false, .int .i64 0, .string ByteArray.empty, .string ByteArray.empty, .string ByteArray.empty, .slice none 0 0, .slice none 0 0, .string ByteArray.empty, .slice xA la.length xc, .slice none 0 0]) (Exp.At.mono (fun b hb => Nat.lt_of_lt_of_le hb (HE12.out.trans hxx).size) _ _ (Exp.At.alike (Alike.of_ext (HE12.out.trans hxx) fun _ h => h) _ _ HXi.out)) flat_nil)) (by rw [LIM_eq]; simp) rfl (by simp) (by rw [maxLen_eq]; omega)
          have hc := evalS_ok (.of 22 [setE la, setE la]) (.truth true, 0) x13 (opC 22 (.slice (some ⟨w12.heap.size + 1, 0, none⟩) 2 2)) (by rw [sets_two _ _ _ (by omega) _ _ (by have := HLa.out; omega) (by have := HLa.out; omega), if_neg (by omega), not_any, all_self]; rfl) (by rw [Exp.of_dep]; have := setE_dep la; have := setE_dep lb; simp only [Exp.deps]; omega) (Exp.of_lits (by omega) (by intro x hx; simp at hx; subst hx; exact setE_lits _)) (by rw [Exp.of, Exp.ops, Exp.opsL_iff]; exact ⟨by simp [Set4], by intro x hx; simp at hx; subst hx; exact setE_ops _⟩) (of_at (by unfold I64; omega) hk) (HSE.out.ext (HE12.out.trans hxx))
          refine hc.mono ?_
          rintro e13 w13 ⟨cv, rfl, hv, hx13⟩
          obtain ⟨zA13, zc13, zB13, zd13, rfl⟩ := hv.opened
          have hxx := (hxx.trans hx13).alloc (.cells #[.int .i64 1, .bool true, .int .i64 0, .string ByteArray.empty, .string ByteArray.empty, .string ByteArray.empty, .slice zA13 0 zc13, .slice zB13 0 zd13] 28)
          have HP13 := Lib.hid ((hxx.block _ (Blk_lt HP12.out)).trans HP12.out)
          have HQ13 := Lib.hid ((hxx.block _ (Blk_lt HQ12.out)).trans HQ12.out)
          have HE13 := Lib.hid (HE12.out.trans hxx)
          have HR13 := Lib.hid (heap_alloc_new w13 (.cells #[.int .i64 1, .bool true, .int .i64 0, .string ByteArray.empty, .string ByteArray.empty, .string ByteArray.empty, .slice zA13 0 zc13, .slice zB13 0 zd13] 28))
          clear hk hc hv hx13 HRr hxx Hsz HE12 HP12 HQ12
          have f1 : (w13.alloc (.cells #[.int .i64 1, .bool true, .int .i64 0, .string ByteArray.empty, .string ByteArray.empty, .string ByteArray.empty, .slice zA13 0 zc13, .slice zB13 0 zd13] 28)).cell? ⟨w11.heap.size, 1, none⟩ = some (.bool tall) := cell_of_row _ _ 1 _ _ _ HP13.out
          have f2 : (w13.alloc (.cells #[.int .i64 1, .bool true, .int .i64 0, .string ByteArray.empty, .string ByteArray.empty, .string ByteArray.empty, .slice zA13 0 zc13, .slice zB13 0 zd13] 28)).cell? ⟨w12.heap.size, 1, none⟩ = some (.bool tsome) := cell_of_row _ _ 1 _ _ _ HQ13.out
          have f3 : (w13.alloc (.cells #[.int .i64 1, .bool true, .int .i64 0, .string ByteArray.empty, .string ByteArray.empty, .string ByteArray.empty, .slice zA13 0 zc13, .slice zB13 0 zd13] 28)).cell? ⟨w13.heap.size, 1, none⟩ = some (.bool true) := cell_of_row _ _ 1 _ _ _ HR13.out
          have q1 : (tall == tall) = true := by simp
          have q2 : (tsome == tsome) = true := by simp
          go_wp2_with fail
          go_ret
          exact ⟨rfl, HXr.out.trans HE13.out⟩
end Go.Proofs.YtebfoimbdljbmaaDoor
