/-
  EvalNumbers: what the statement's own function answers. The conditions: the table of operators lies as it is laid at the start.
-/
import Derived.Test.YtebfoimbdljbmaaDoorGl
import Derived.Test.YtebfoimbdljbmaaDoorAskVQ
import Derived.Test.YtebfoimbdljbmaaDoorExec2Q
namespace Go.Proofs.YtebfoimbdljbmaaDoor
open Go.RowKit

/-- the operators of numbers -/
def Num6 (op : Int) : Prop := op = 1 ∨ op = 14 ∨ op = 9 ∨ op = 10 ∨ op = 11 ∨ op = 12 ∨ op = 13
theorem evN_ok {q : Req} {c : List Ent} : ∀ n, EvOf Num6 q c n
  | 0 => fun e g w cs hn => by cases e; simp at hn
  | n + 1 => fun e g w cs hn hl hr he => by
    have ih := evN_ok (q := q) (c := c) n
    cases hb : badOp e.op e.kids.length e.names.length with
    | true => exact eval_bad ih e g w cs hb hn hl hr he
    | false =>
      rcases (Exp.fine_iff.1 hl).1 with h | h | h | h | h | h | h
      · exact eval_lit ih e g w cs h hb hn hl hr he
      · exact eval_one ih e g w cs (.inr (.inl h)) hb (fun S a W ca hS hr he ha => by rw [h]; exact one_14 S e a g W cs ca h hS hr he ha) hn hl hr he
      · exact eval_two ih e g w cs (.inr <| .inl h) hb (fun S a b W ca cb hS hr ha hb => by rw [h]; exact two_9 S a b g W ca cb hS hr ha hb) hn hl hr he
      · exact eval_two ih e g w cs (.inr <| .inr <| .inl h) hb (fun S a b W ca cb hS hr ha hb => by rw [h]; exact two_10 S a b g W ca cb hS hr ha hb) hn hl hr he
      · exact eval_two ih e g w cs (.inr <| .inr <| .inr <| .inl h) hb (fun S a b W ca cb hS hr ha hb => by rw [h]; exact two_11 S a b g W ca cb hS hr ha hb) hn hl hr he
      · exact eval_two ih e g w cs (.inr <| .inr <| .inr <| .inr <| .inl h) hb (fun S a b W ca cb hS hr ha hb => by rw [h]; exact two_12 S a b g W ca cb hS hr ha hb) hn hl hr he
      · exact eval_two ih e g w cs (.inr <| .inr <| .inr <| .inr <| .inr <| .inl h) hb (fun S a b W ca cb hS hr ha hb => by rw [h]; exact two_13 S a b g W ca cb hS hr ha hb) hn hl hr he
theorem evalN_ok (e : Exp) (r : Rs) (w : World) (cs : List Value) (hr : e.eval reqZ [] = r) (hd : e.dep ≤ 1000000) (hl : e.lits 1000000) (ho : e.ops Num6) (he : InX w e cs) (hs : Sums w) :
    Calls Tryd.prog 7 #[.agg cs.toArray, .agg reqC.toArray, .pointer none] w (ValErr r.1 r.2 w) := evalZA_ok evN_ok e r w cs hr hd ⟨hl, ho⟩ he hs
theorem refAns_fresh {S : Nat → Prop} {z : Val} {er : Int} {w : World} {e : Ending} {w' : World} (h : ValErr z er w e w') : RefAns S (z, er) w e w' := by
  obtain ⟨cs, he, hv, hx⟩ := h
  exact ⟨z, cs, he, fun _ => rfl, Val.At.mono (fun b hb => Or.inr hb) _ _ hv, hx⟩
theorem row_keep {W : World} {A g : Nat} {c cur row : Array Value} {T U : TypeId} (hTU : T ≠ U) (h : W.heap[A]? = some (.cells c T (0, 0))) (hg : W.heap[g]? = some (.cells cur U (0, 0))) : (W.setRow g row).heap[A]? = some (.cells c T (0, 0)) :=
  ((GrownBy.setRow W g row).block A (Blk_lt h) (fun e => by injection e with e; subst e; rw [h] at hg; injection hg with hg; injection hg with _ h2 _; exact hTU h2)).trans h
theorem whole_lits (n : Int) : (Exp.lit (.whole n)).lits 1000000 := Exp.lit_lits (by simp [Val.whole, Val.dep])
theorem lit_num (n : Int) : (Exp.lit (.whole n)).ops Num6 := by simp [Exp.lit, Exp.ops, Exp.opsL, Num6]
theorem of_num {op : Int} {l : List Exp} (h : Num6 op) (hl : ∀ x ∈ l, x.ops Num6) : (Exp.of op l).ops Num6 := by
  rw [Exp.of, Exp.ops, Exp.opsL_iff]
  exact ⟨h, hl⟩
theorem one_at {w : World} {e : Exp} {cs r : List Value} {b cap : Nat} {T : TypeId} (h : w.heap[b]? = some (.cells (cs ++ r).toArray T (0, 0))) (he : Exp.At (fun b => b < w.heap.size) w e cs) (hc : 1 ≤ cap) (hm : cap ≤ maxLen) :
    expR.RowsAt (fun b => b < w.heap.size) w [e] (.slice (some ⟨b, 0, none⟩) 1 cap) :=
  ⟨some ⟨b, 0, none⟩, cap, rfl, ⟨by rw [LIM_eq]; simp, hc, hm⟩, fun _ => ⟨b, 0, rfl, Blk_lt h, fun i x hx => by
    match i, hx with
    | 0, hx =>
      obtain rfl : e = x := by simpa using hx
      exact ⟨cs, fun j v hj => by
        rw [show 0 + 0 * expR.size + j = j by omega]
        exact cells_of_row h j v (by rw [List.getElem?_append_left (by obtain ⟨hj, _⟩ := List.getElem?_eq_some_iff.1 hj; exact hj)]; exact hj) |> fun h => by simpa using h, he⟩
    | i + 1, hx => simp at hx⟩⟩
theorem Tryd.buildN4 : ∀ w, (Instr.buildSlice 36 4 #[(0, .int .i64 11), (1, .int .i64 12), (2, .int .i64 13), (3, .int .i64 14)]).run Tryd.prog w = .ok (.slice (some ⟨w.heap.size, 0, none⟩) 4 4) (w.alloc (.cells #[.int .i64 11, .int .i64 12, .int .i64 13, .int .i64 14] 3)) := by
  intro w; simp [Instr.buildSlice, go_sem]
theorem Tryd.rowN2 (xs ys : List Value) (hx : xs.length = 12) (hy : ys.length = 12) (w : World) : (Instr.buildSlice 29 2 #[(0, .agg xs.toArray), (1, .agg ys.toArray)]).run Tryd.prog w = .ok (.slice (some ⟨w.heap.size, 0, none⟩) 2 2) (w.alloc (.cells (xs ++ ys).toArray 31)) := by
  match xs, ys, hx, hy with
  | [a0, a1, a2, a3, a4, a5, a6, a7, a8, a9, a10, a11], [b0, b1, b2, b3, b4, b5, b6, b7, b8, b9, b10, b11], _, _ =>
    simp [Instr.buildSlice, go_sem]
theorem Tryd.bldN (op : Int) (A : Option Addr) (n c : Nat) (w : World) : (Instr.build 31 #[(0, .int .i64 op), (3, .slice A n c)]).run Tryd.prog w = .ok (.agg ([.int .i64 op, .int .i64 0, .bool false, .int .i64 0, .string ByteArray.empty, .string ByteArray.empty, .string ByteArray.empty, .slice none 0 0, .slice none 0 0, .string ByteArray.empty, .slice A n c, .slice none 0 0] : List Value).toArray) w := by
  simp [Instr.build, go_sem]; rfl
theorem Tryd.bldQ (w : World) : (Instr.build 38 #[]).run Tryd.prog w = .ok (.agg ([.string ByteArray.empty, .string ByteArray.empty, .string ByteArray.empty, .string ByteArray.empty, .string ByteArray.empty, .string ByteArray.empty, .int .i64 0, .bool false, .int .i64 0, .string ByteArray.empty, .string ByteArray.empty, .string ByteArray.empty, .slice none 0 0, .slice none 0 0] : List Value).toArray) w := by
  simp [Instr.build, go_sem]; rfl
theorem Tryd.bldV (n : Int) (w : World) : (Instr.build 28 #[(0, .int .i64 2), (2, .int .i64 n)]).run Tryd.prog w = .ok (.agg ([.int .i64 2, .bool false, .int .i64 n, .string ByteArray.empty, .string ByteArray.empty, .string ByteArray.empty, .slice none 0 0, .slice none 0 0] : List Value).toArray) w := by
  simp [Instr.build, go_sem]; rfl
theorem Tryd.undIs : Tryd.prog.underlying 36 = some (.slice (Tryd.prog.elem 36)) := by kernel_rfl
theorem Tryd.sizIs : ∀ w, (Go.sizeOf (Tryd.prog.elem 36)).run Tryd.prog w = .ok 1 w := fun _ => by kernel_rfl
theorem Tryd.aggIs : ∀ w, (isAgg 3).run Tryd.prog w = .ok false w := fun _ => by kernel_rfl
theorem Tryd.cutN (A n : Nat) (hn : n = 1 ∨ n = 2) (w : World) : (Instr.sliceAt 29 (.slice (some ⟨A, 0, none⟩) 2 2) none (some (.int .i64 n)) none).run Tryd.prog w = .ok (.slice (some ⟨A, 0, none⟩) n 2) w := by
  rcases hn with rfl | rfl <;> simp [go_sem, sliced, Addr.add]
theorem exec_cut_hi {P : Program} {o : Oper} {a : Act} {w : World} {t : TypeId} {x hi : Operand} {u v r : Value} (ho : o.op = .slice t x none (some hi) none) (hx : a.eval x = u) (hh : a.eval hi = v) (hr : (Instr.sliceAt t u none (some v) none).run P w = .ok r w) : (execOp a.eval o).run P w = .ok (.value r) w := by
  unfold execOp
  simp only [ho, Option.map, hx, hh]
  simp [hr]
theorem list20r {α : Type} {l : List α} (h : l.length = 20) : ∃ a0 a1 a2 a3 a4 a5 a6 a7 a8 a9 b0 b1 b2 b3 b4 b5 b6 b7 b8 b9, l = [a0, a1, a2, a3, a4, a5, a6, a7, a8, a9, b0, b1, b2, b3, b4, b5, b6, b7, b8, b9] := by
  match l, h with
  | [a0, a1, a2, a3, a4, a5, a6, a7, a8, a9, b0, b1, b2, b3, b4, b5, b6, b7, b8, b9], _ => exact ⟨a0, a1, a2, a3, a4, a5, a6, a7, a8, a9, b0, b1, b2, b3, b4, b5, b6, b7, b8, b9, rfl⟩
theorem list13n {α : Type} {l : List α} (h : l.length = 13) : ∃ a0 a1 a2 a3 a4 a5 a6 a7 a8 a9 b0 b1 b2, l = [a0, a1, a2, a3, a4, a5, a6, a7, a8, a9, b0, b1, b2] := by
  match l, h with
  | [a0, a1, a2, a3, a4, a5, a6, a7, a8, a9, b0, b1, b2], _ => exact ⟨a0, a1, a2, a3, a4, a5, a6, a7, a8, a9, b0, b1, b2, rfl⟩
/-- what the first operations of the reckoning come to -/
def NumV (w0 : World) (k : Nat) (op : Int) (n : Nat) (xc yc : List Value) (i : Nat) (v : Value) (W : World) : Prop :=
  match i with
  | 0 => ∃ A, v = .slice (some ⟨A, 0, none⟩) 4 4 ∧ W.heap[A]? = some (.cells #[.int .i64 11, .int .i64 12, .int .i64 13, .int .i64 14] 3 (0, 0))
  | 1 => v = .int .i64 k
  | 2 => ∃ A, v = .pointer (some ⟨A, 0 + k * 1, none⟩) ∧ W.heap[A]? = some (.cells #[.int .i64 11, .int .i64 12, .int .i64 13, .int .i64 14] 3 (0, 0))
  | 3 => v = .int .i64 op
  | 4 => v = .agg xc.toArray
  | 5 => v = .agg yc.toArray
  | 6 => ∃ A, v = .slice (some ⟨A, 0, none⟩) 2 2 ∧ w0.heap.size ≤ A ∧ W.heap[A]? = some (.cells (xc ++ yc).toArray 31 (0, 0))
  | 7 => v = .int .i64 k
  | 8 => v = .int .i64 (2 - n)
  | 9 => v = .int .i64 n
  | 10 => ∃ A, v = .slice (some ⟨A, 0, none⟩) n 2 ∧ w0.heap.size ≤ A ∧ W.heap[A]? = some (.cells (xc ++ yc).toArray 31 (0, 0))
  | 11 => ∃ A, v = .agg ([.int .i64 op, .int .i64 0, .bool false, .int .i64 0, .string ByteArray.empty, .string ByteArray.empty, .string ByteArray.empty, .slice none 0 0, .slice none 0 0, .string ByteArray.empty, .slice (some ⟨A, 0, none⟩) n 2, .slice none 0 0] : List Value).toArray ∧ w0.heap.size ≤ A ∧ W.heap[A]? = some (.cells (xc ++ yc).toArray 31 (0, 0))
  | 12 => v = .agg ([.string ByteArray.empty, .string ByteArray.empty, .string ByteArray.empty, .string ByteArray.empty, .string ByteArray.empty, .string ByteArray.empty, .int .i64 0, .bool false, .int .i64 0, .string ByteArray.empty, .string ByteArray.empty, .string ByteArray.empty, .slice none 0 0, .slice none 0 0] : List Value).toArray
  | _ => False
def SumV (w0 : World) (xc yc : List Value) (i : Nat) (v : Value) (W : World) : Prop :=
  match i with
  | 0 => v = .agg xc.toArray
  | 1 => v = .agg ([.int .i64 2, .bool false, .int .i64 1, .string ByteArray.empty, .string ByteArray.empty, .string ByteArray.empty, .slice none 0 0, .slice none 0 0] : List Value).toArray
  | 2 => v = .agg yc.toArray
  | 3 => ∃ A, v = .slice (some ⟨A, 0, none⟩) 2 2 ∧ w0.heap.size ≤ A ∧ W.heap[A]? = some (.cells (xc ++ yc).toArray 31 (0, 0))
  | 4 => ∃ A, v = .agg ([.int .i64 11, .int .i64 0, .bool false, .int .i64 0, .string ByteArray.empty, .string ByteArray.empty, .string ByteArray.empty, .slice none 0 0, .slice none 0 0, .string ByteArray.empty, .slice (some ⟨A, 0, none⟩) 2 2, .slice none 0 0] : List Value).toArray ∧ w0.heap.size ≤ A ∧ W.heap[A]? = some (.cells (xc ++ yc).toArray 31 (0, 0))
  | 5 => v = .agg ([.string ByteArray.empty, .string ByteArray.empty, .string ByteArray.empty, .string ByteArray.empty, .string ByteArray.empty, .string ByteArray.empty, .int .i64 0, .bool false, .int .i64 0, .string ByteArray.empty, .string ByteArray.empty, .string ByteArray.empty, .slice none 0 0, .slice none 0 0] : List Value).toArray
  | _ => False
theorem NumV.ext {w0 : World} {k : Nat} {op : Int} {n : Nat} {xc yc : List Value} : ∀ (i : Nat) (v : Value) (W W' : World), NumV w0 k op n xc yc i v W → Ext W W' → NumV w0 k op n xc yc i v W'
  | 0, _, _, _, ⟨A, e, h2⟩, k => ⟨A, e, (k.block _ (Blk_lt h2)).trans h2⟩
  | 1, _, _, _, h, _ => h
  | 2, _, _, _, ⟨A, e, h2⟩, k => ⟨A, e, (k.block _ (Blk_lt h2)).trans h2⟩
  | 3, _, _, _, h, _ => h
  | 4, _, _, _, h, _ => h
  | 5, _, _, _, h, _ => h
  | 6, _, _, _, ⟨A, e, h1, h2⟩, k => ⟨A, e, h1, (k.block _ (Blk_lt h2)).trans h2⟩
  | 7, _, _, _, h, _ => h
  | 8, _, _, _, h, _ => h
  | 9, _, _, _, h, _ => h
  | 10, _, _, _, ⟨A, e, h1, h2⟩, k => ⟨A, e, h1, (k.block _ (Blk_lt h2)).trans h2⟩
  | 11, _, _, _, ⟨A, e, h1, h2⟩, k => ⟨A, e, h1, (k.block _ (Blk_lt h2)).trans h2⟩
  | 12, _, _, _, h, _ => h
  | _ + 13, _, _, _, h, _ => h
theorem NumV.row {w0 : World} {k : Nat} {op : Int} {n : Nat} {xc yc : List Value} {g : Nat} {cur row : Array Value} : ∀ (i : Nat) (v : Value) (W : World), NumV w0 k op n xc yc i v W → W.heap[g]? = some (.cells cur 28 (0, 0)) → NumV w0 k op n xc yc i v (W.setRow g row)
  | 0, _, _, ⟨A, e, h2⟩, k => ⟨A, e, row_keep (by decide) h2 k⟩
  | 1, _, _, h, _ => h
  | 2, _, _, ⟨A, e, h2⟩, k => ⟨A, e, row_keep (by decide) h2 k⟩
  | 3, _, _, h, _ => h
  | 4, _, _, h, _ => h
  | 5, _, _, h, _ => h
  | 6, _, _, ⟨A, e, h1, h2⟩, k => ⟨A, e, h1, row_keep (by decide) h2 k⟩
  | 7, _, _, h, _ => h
  | 8, _, _, h, _ => h
  | 9, _, _, h, _ => h
  | 10, _, _, ⟨A, e, h1, h2⟩, k => ⟨A, e, h1, row_keep (by decide) h2 k⟩
  | 11, _, _, ⟨A, e, h1, h2⟩, k => ⟨A, e, h1, row_keep (by decide) h2 k⟩
  | 12, _, _, h, _ => h
  | _ + 13, _, _, h, _ => h
theorem SumV.ext {w0 : World} {xc yc : List Value} : ∀ (i : Nat) (v : Value) (W W' : World), SumV w0 xc yc i v W → Ext W W' → SumV w0 xc yc i v W'
  | 0, _, _, _, h, _ => h
  | 1, _, _, _, h, _ => h
  | 2, _, _, _, h, _ => h
  | 3, _, _, _, ⟨A, e, h1, h2⟩, k => ⟨A, e, h1, (k.block _ (Blk_lt h2)).trans h2⟩
  | 4, _, _, _, ⟨A, e, h1, h2⟩, k => ⟨A, e, h1, (k.block _ (Blk_lt h2)).trans h2⟩
  | 5, _, _, _, h, _ => h
  | _ + 6, _, _, _, h, _ => h
theorem SumV.row {w0 : World} {xc yc : List Value} {g : Nat} {cur row : Array Value} : ∀ (i : Nat) (v : Value) (W : World), SumV w0 xc yc i v W → W.heap[g]? = some (.cells cur 28 (0, 0)) → SumV w0 xc yc i v (W.setRow g row)
  | 0, _, _, h, _ => h
  | 1, _, _, h, _ => h
  | 2, _, _, h, _ => h
  | 3, _, _, ⟨A, e, h1, h2⟩, k => ⟨A, e, h1, row_keep (by decide) h2 k⟩
  | 4, _, _, ⟨A, e, h1, h2⟩, k => ⟨A, e, h1, row_keep (by decide) h2 k⟩
  | 5, _, _, h, _ => h
  | _ + 6, _, _, h, _ => h
theorem i64_and3n (n : Int) : bits .and .i64 n 3 = n % 4 := by
  have h3 : (BitVec.ofInt 64 3).toNat = 2 ^ 2 - 1 := by decide
  have key : (BitVec.ofInt 64 n &&& BitVec.ofInt 64 3).toNat = (n % ((2 ^ 64 : Nat) : Int)).toNat % 2 ^ 2 := by
    rw [BitVec.toNat_and, BitVec.toNat_ofInt, h3, Nat.and_two_pow_sub_one_eq_mod]
  show IntKind.i64.wrap ((BitVec.ofInt 64 n &&& BitVec.ofInt 64 3).toNat : Nat) = n % 4
  rw [key, IntKind.wrap_i64]
  omega
theorem mul_fit {a b : Int} (ha : -2147483648 ≤ a ∧ a ≤ 2147483647) (hb : -2147483648 ≤ b ∧ b ≤ 2147483647) : -4611686018427387904 ≤ a * b ∧ a * b ≤ 4611686018427387904 := by
  have h : (a * b).natAbs ≤ 2147483648 * 2147483648 := by
    rw [Int.natAbs_mul]
    exact Nat.mul_le_mul (by omega) (by omega)
  omega
set_option maxRecDepth 100000 in
set_option maxHeartbeats 4000000 in
theorem evalNumbers_0 (a b op : Int) (ha : -2147483648 ≤ a ∧ a ≤ 2147483647) (hb : -2147483648 ≤ b ∧ b ≤ 2147483647) (hk : op % 4 = 0) (W : World) (hs : Sums W) :
    Calls Tryd.prog 3 #[.int .i32 a, .int .i32 b, .int .i64 op] W fun e W' => e = .returned (.bool true) ∧ Ext W W' := by
  have hA := Lib.hid ha
  have hB := Lib.hid hb
  have HS := Lib.hid hs
  have hop : bits .and .i64 op 3 = 0 := by rw [i64_and3n]; exact hk
  obtain ⟨a0, a1⟩ := ha
  obtain ⟨b0, b1⟩ := hb
  clear hk hs
  go_enter Tryd.func3, Tryd.ntmps3
  go_wp2_with fail
  refine (awake14_ok W HS.out).mono ?_
  rintro e1 w1 ⟨rfl, hx1⟩
  have HX1 := Lib.hid hx1
  clear hx1
  go_wp2_with fail
  refine (lit_ok 2 false a ByteArray.empty ByteArray.empty ByteArray.empty none 0 0 none 0 0 _).mono ?_
  rintro e2 w2 ⟨rfl, hx2⟩
  have HX2 := Lib.hid (HX1.out.trans hx2)
  clear hx2 HX1
  go_wp2_with fail
  refine (lit_ok 2 false b ByteArray.empty ByteArray.empty ByteArray.empty none 0 0 none 0 0 _).mono ?_
  rintro e3 w3 ⟨rfl, hx3⟩
  have HA3 := Lib.hid ((hx3.block _ (by simp)).trans (heap_alloc_new w2 (.cells #[.int .i64 1, .int .i64 2, .bool false, .int .i64 a, .string ByteArray.empty, .string ByteArray.empty, .string ByteArray.empty, .slice none 0 0, .slice none 0 0, .string ByteArray.empty, .slice none 0 0, .slice none 0 0] 31)))
  have HX3 := Lib.hid ((HX2.out.alloc (.cells #[.int .i64 1, .int .i64 2, .bool false, .int .i64 a, .string ByteArray.empty, .string ByteArray.empty, .string ByteArray.empty, .slice none 0 0, .slice none 0 0, .string ByteArray.empty, .slice none 0 0, .slice none 0 0] 31)).trans hx3)
  clear hx3 HX2
  go_wp2_with fail
  have HA4 := Lib.hid ((heap_alloc_old w3 (.cells #[.int .i64 1, .int .i64 2, .bool false, .int .i64 b, .string ByteArray.empty, .string ByteArray.empty, .string ByteArray.empty, .slice none 0 0, .slice none 0 0, .string ByteArray.empty, .slice none 0 0, .slice none 0 0] 31) (Blk_lt HA3.out)).trans HA3.out)
  have HB4 := Lib.hid (heap_alloc_new w3 (.cells #[.int .i64 1, .int .i64 2, .bool false, .int .i64 b, .string ByteArray.empty, .string ByteArray.empty, .string ByteArray.empty, .slice none 0 0, .slice none 0 0, .string ByteArray.empty, .slice none 0 0, .slice none 0 0] 31))
  have HX4 := Lib.hid (HX3.out.alloc (.cells #[.int .i64 1, .int .i64 2, .bool false, .int .i64 b, .string ByteArray.empty, .string ByteArray.empty, .string ByteArray.empty, .slice none 0 0, .slice none 0 0, .string ByteArray.empty, .slice none 0 0, .slice none 0 0] 31))
  obtain ⟨w4, hW⟩ : ∃ W, W = w3.alloc (.cells #[.int .i64 1, .int .i64 2, .bool false, .int .i64 b, .string ByteArray.empty, .string ByteArray.empty, .string ByteArray.empty, .slice none 0 0, .slice none 0 0, .string ByteArray.empty, .slice none 0 0, .slice none 0 0] 31) := ⟨_, rfl⟩
  rw [← hW] at HA4 HB4 HX4 ⊢
  clear hW
  have HS4 := Lib.hid (HS.out.ext HX4.out)
  have HR0 := Lib.hid (show -9223372036854775808 ≤ a + b ∧ a + b ≤ 9223372036854775807 from by omega)
  clear HA3 HX3 hop
  refine region_askV (fun b => b < w4.heap.size) w4.heap.size 13 20 48 34 49 50 11 rfl (NumV w4 0 11 2 [.int .i64 1, .int .i64 2, .bool false, .int .i64 a, .string ByteArray.empty, .string ByteArray.empty, .string ByteArray.empty, .slice none 0 0, .slice none 0 0, .string ByteArray.empty, .slice none 0 0, .slice none 0 0] [.int .i64 1, .int .i64 2, .bool false, .int .i64 b, .string ByteArray.empty, .string ByteArray.empty, .string ByteArray.empty, .slice none 0 0, .slice none 0 0, .string ByteArray.empty, .slice none 0 0, .slice none 0 0]) (.whole (a + b), 0) (by kernel_rfl) (by kernel_rfl) (by kernel_rfl) (fun _ h => h) (Nat.le_refl _) (fun i v W W' _ h _ k => h.ext i v W W' k) (fun i v W g cur row _ h _ _ hc => h.row i v W hc)
    ⟨_, _, _, _, _, _, _, rfl, rfl, rfl, rfl, rfl, rfl, rfl, rfl, rfl, rfl, rfl, rfl, rfl⟩ ⟨by kernel_rfl, by kernel_rfl, by kernel_rfl, by kernel_rfl, by kernel_rfl⟩ ⟨by kernel_rfl, by kernel_rfl, by kernel_rfl, by kernel_rfl, by kernel_rfl, by kernel_rfl⟩ (fun i o hi ho W5 c hx hold hf Q K hK => ?_) (fun o ho W5 c hx hold hf => ?_) (fun xs W5 z cv g hlen hx hV hp hg hrow hz hat he => ?_)
  · rcases (by omega : i = 0 ∨ i = 1 ∨ i = 2 ∨ i = 3 ∨ i = 4 ∨ i = 5 ∨ i = 6 ∨ i = 7 ∨ i = 8 ∨ i = 9 ∨ i = 10 ∨ i = 11 ∨ i = 12) with rfl | rfl | rfl | rfl | rfl | rfl | rfl | rfl | rfl | rfl | rfl | rfl | rfl <;> obtain rfl := Option.some.inj ho
    · exact wp_leaves (Φ := (NumV w4 0 11 2 [.int .i64 1, .int .i64 2, .bool false, .int .i64 a, .string ByteArray.empty, .string ByteArray.empty, .string ByteArray.empty, .slice none 0 0, .slice none 0 0, .string ByteArray.empty, .slice none 0 0, .slice none 0 0] [.int .i64 1, .int .i64 2, .bool false, .int .i64 b, .string ByteArray.empty, .string ByteArray.empty, .string ByteArray.empty, .slice none 0 0, .slice none 0 0, .string ByteArray.empty, .slice none 0 0, .slice none 0 0]) 0) (exec_buildN _ _ _ rfl (by simp only [List.map_toArray, List.map_cons, List.map_nil]; rfl) (Tryd.buildN4 W5)) ((Ext.refl W5).alloc _) ⟨_, rfl, heap_alloc_new _ _⟩ hK
    · exact wp_known (exec_move rfl (hold 10 (by kernel_rfl))) hK
    · obtain ⟨A, k1, h1⟩ := (hf 0 35 (by omega) (by kernel_rfl) (by kernel_rfl))
      exact wp_leaves (Φ := (NumV w4 0 11 2 [.int .i64 1, .int .i64 2, .bool false, .int .i64 a, .string ByteArray.empty, .string ByteArray.empty, .string ByteArray.empty, .slice none 0 0, .slice none 0 0, .string ByteArray.empty, .slice none 0 0, .slice none 0 0] [.int .i64 1, .int .i64 2, .bool false, .int .i64 b, .string ByteArray.empty, .string ByteArray.empty, .string ByteArray.empty, .slice none 0 0, .slice none 0 0, .string ByteArray.empty, .slice none 0 0, .slice none 0 0]) 2) (exec_index rfl k1 (hf 1 36 (by omega) (by kernel_rfl) (by kernel_rfl)) Tryd.undIs Tryd.sizIs (by omega)) (Ext.refl W5) ⟨A, rfl, h1⟩ hK
    · obtain ⟨A, k1, h1⟩ := (hf 2 37 (by omega) (by kernel_rfl) (by kernel_rfl))
      exact wp_known (exec_load_one 3 _ rfl A (0 + 0 * 1) k1 Tryd.aggIs (cell_of_row _ _ 0 _ _ _ h1)) hK
    · exact wp_known (exec_load_cells 31 _ rfl w2.heap.size 0 (hold 8 (by kernel_rfl)) Tryd.aggEx Tryd.sizeEx (cs := [.int .i64 1, .int .i64 2, .bool false, .int .i64 a, .string ByteArray.empty, .string ByteArray.empty, .string ByteArray.empty, .slice none 0 0, .slice none 0 0, .string ByteArray.empty, .slice none 0 0, .slice none 0 0]) rfl (cells_of_row ((hx.block _ (Blk_lt HA4.out)).trans HA4.out))) hK
    · exact wp_known (exec_load_cells 31 _ rfl w3.heap.size 0 (hold 9 (by kernel_rfl)) Tryd.aggEx Tryd.sizeEx (cs := [.int .i64 1, .int .i64 2, .bool false, .int .i64 b, .string ByteArray.empty, .string ByteArray.empty, .string ByteArray.empty, .slice none 0 0, .slice none 0 0, .string ByteArray.empty, .slice none 0 0, .slice none 0 0]) rfl (cells_of_row ((hx.block _ (Blk_lt HB4.out)).trans HB4.out))) hK
    · have k1 : c.eval (.tmp 39) = .agg ([.int .i64 1, .int .i64 2, .bool false, .int .i64 a, .string ByteArray.empty, .string ByteArray.empty, .string ByteArray.empty, .slice none 0 0, .slice none 0 0, .string ByteArray.empty, .slice none 0 0, .slice none 0 0] : List Value).toArray := (hf 4 39 (by omega) (by kernel_rfl) (by kernel_rfl))
      have k2 : c.eval (.tmp 40) = .agg ([.int .i64 1, .int .i64 2, .bool false, .int .i64 b, .string ByteArray.empty, .string ByteArray.empty, .string ByteArray.empty, .slice none 0 0, .slice none 0 0, .string ByteArray.empty, .slice none 0 0, .slice none 0 0] : List Value).toArray := (hf 5 40 (by omega) (by kernel_rfl) (by kernel_rfl))
      exact wp_leaves (Φ := (NumV w4 0 11 2 [.int .i64 1, .int .i64 2, .bool false, .int .i64 a, .string ByteArray.empty, .string ByteArray.empty, .string ByteArray.empty, .slice none 0 0, .slice none 0 0, .string ByteArray.empty, .slice none 0 0, .slice none 0 0] [.int .i64 1, .int .i64 2, .bool false, .int .i64 b, .string ByteArray.empty, .string ByteArray.empty, .string ByteArray.empty, .slice none 0 0, .slice none 0 0, .string ByteArray.empty, .slice none 0 0, .slice none 0 0]) 6) (exec_buildN _ _ _ rfl (by simp only [List.map_toArray, List.map_cons, List.map_nil, k1, k2]) (Tryd.rowN2 [.int .i64 1, .int .i64 2, .bool false, .int .i64 a, .string ByteArray.empty, .string ByteArray.empty, .string ByteArray.empty, .slice none 0 0, .slice none 0 0, .string ByteArray.empty, .slice none 0 0, .slice none 0 0] [.int .i64 1, .int .i64 2, .bool false, .int .i64 b, .string ByteArray.empty, .string ByteArray.empty, .string ByteArray.empty, .slice none 0 0, .slice none 0 0, .string ByteArray.empty, .slice none 0 0, .slice none 0 0] rfl rfl W5)) ((Ext.refl W5).alloc _) ⟨_, rfl, hx.size, heap_alloc_new _ _⟩ hK
    · exact wp_known (exec_move rfl (hold 10 (by kernel_rfl))) hK
    · exact wp_known (exec_binX rfl (hf 7 42 (by omega) (by kernel_rfl) (by kernel_rfl)) rfl (by kernel_rfl)) hK
    · exact wp_known (exec_binX rfl rfl (hf 8 43 (by omega) (by kernel_rfl) (by kernel_rfl)) (by kernel_rfl)) hK
    · obtain ⟨A, k1, h1, h2⟩ := (hf 6 41 (by omega) (by kernel_rfl) (by kernel_rfl))
      exact wp_leaves (Φ := (NumV w4 0 11 2 [.int .i64 1, .int .i64 2, .bool false, .int .i64 a, .string ByteArray.empty, .string ByteArray.empty, .string ByteArray.empty, .slice none 0 0, .slice none 0 0, .string ByteArray.empty, .slice none 0 0, .slice none 0 0] [.int .i64 1, .int .i64 2, .bool false, .int .i64 b, .string ByteArray.empty, .string ByteArray.empty, .string ByteArray.empty, .slice none 0 0, .slice none 0 0, .string ByteArray.empty, .slice none 0 0, .slice none 0 0]) 10) (exec_cut_hi rfl k1 (hf 9 44 (by omega) (by kernel_rfl) (by kernel_rfl)) (Tryd.cutN A 2 (by omega) W5)) (Ext.refl W5) ⟨A, rfl, h1, h2⟩ hK
    · have k1 : c.eval (.tmp 38) = .int .i64 11 := (hf 3 38 (by omega) (by kernel_rfl) (by kernel_rfl))
      obtain ⟨A, k2, h1, h2⟩ := (hf 10 45 (by omega) (by kernel_rfl) (by kernel_rfl))
      exact wp_leaves (Φ := (NumV w4 0 11 2 [.int .i64 1, .int .i64 2, .bool false, .int .i64 a, .string ByteArray.empty, .string ByteArray.empty, .string ByteArray.empty, .slice none 0 0, .slice none 0 0, .string ByteArray.empty, .slice none 0 0, .slice none 0 0] [.int .i64 1, .int .i64 2, .bool false, .int .i64 b, .string ByteArray.empty, .string ByteArray.empty, .string ByteArray.empty, .slice none 0 0, .slice none 0 0, .string ByteArray.empty, .slice none 0 0, .slice none 0 0]) 11) (exec_bldX rfl (by simp only [List.map_toArray, List.map_cons, List.map_nil, k1, k2]) (Tryd.bldN 11 _ _ _ W5)) (Ext.refl W5) ⟨A, rfl, h1, h2⟩ hK
    · exact wp_known (exec_bldX rfl (by simp only [List.map_toArray, List.map_nil]) (Tryd.bldQ W5)) hK
  · obtain rfl := Option.some.inj ho
    obtain ⟨A, k1, hr1, hr2⟩ := (hf 11 46 (by omega) (by kernel_rfl) (by kernel_rfl))
    have hk : expR.RowsAt (fun b => b < W5.heap.size) W5 [.lit (.whole a), .lit (.whole b)] (.slice (some ⟨A, 0, none⟩) 2 2) := kids_at (xs := [.int .i64 1, .int .i64 2, .bool false, .int .i64 a, .string ByteArray.empty, .string ByteArray.empty, .string ByteArray.empty, .slice none 0 0, .slice none 0 0, .string ByteArray.empty, .slice none 0 0, .slice none 0 0] ++ [.int .i64 1, .int .i64 2, .bool false, .int .i64 b, .string ByteArray.empty, .string ByteArray.empty, .string ByteArray.empty, .slice none 0 0, .slice none 0 0, .string ByteArray.empty, .slice none 0 0, .slice none 0 0]) hr2 (flat_cons (cs := [.int .i64 1, .int .i64 2, .bool false, .int .i64 a, .string ByteArray.empty, .string ByteArray.empty, .string ByteArray.empty, .slice none 0 0, .slice none 0 0, .string ByteArray.empty, .slice none 0 0, .slice none 0 0]) (lit_at (whole_at _ _ a (show I64 a by unfold I64; omega))) (flat_cons (cs := [.int .i64 1, .int .i64 2, .bool false, .int .i64 b, .string ByteArray.empty, .string ByteArray.empty, .string ByteArray.empty, .slice none 0 0, .slice none 0 0, .string ByteArray.empty, .slice none 0 0, .slice none 0 0]) (lit_at (whole_at _ _ b (show I64 b by unfold I64; omega))) flat_nil)) (by rw [LIM_eq]; simp) rfl (by simp) (by rw [maxLen_eq]; omega)
    refine ⟨_, _, exec_call Tryd.func7 rfl rfl rfl (map_three k1 (hf 12 47 (by omega) (by kernel_rfl) (by kernel_rfl)) rfl), (evalN_ok (.of 11 [.lit (.whole a), .lit (.whole b)]) (.whole (a + b), 0) W5 (opC 11 (.slice (some ⟨A, 0, none⟩) 2 2)) (by rw [two_nums _ _ _ _ _ (by omega), two_add, fitI_in HR0.out]) (by rw [Exp.of_dep]; simp [Exp.deps, Exp.lit_dep]) (Exp.of_lits (by omega) (by intro x hx; simp at hx; rcases hx with rfl | rfl <;> exact whole_lits _)) (of_num (by simp [Num6]) (by intro x hx; simp at hx; rcases hx with rfl | rfl <;> exact lit_num _)) (of_at (by unfold I64; omega) hk) (HS4.out.ext hx)).mono fun e w' h => refAns_fresh h⟩
  · obtain ⟨p0, p1, p2, p3, p4, p5, p6, p7, p8, p9, s0, s1, s2, s3, s4, s5, s6, s7, s8, s9, rfl⟩ := list20r hlen
    have hp : s7 = .pointer (some ⟨g, 0, none⟩) := hp
    have he : s9 = .int .i64 0 := he
    obtain rfl : z = .whole (a + b) := hz rfl
    subst hp he
    obtain ⟨zA5, zc5, zB5, zd5, rfl⟩ := hat.opened
    simp only [List.take, List.drop, putAll, Act.put, List.setIfInBounds_toArray, List.set_cons_zero, List.set_cons_succ]
    have HA5 := Lib.hid ((hx.block _ (Blk_lt HA4.out)).trans HA4.out)
    have HB5 := Lib.hid ((hx.block _ (Blk_lt HB4.out)).trans HB4.out)
    have HX5 := Lib.hid (HX4.out.trans hx)
    have HQa5 := Lib.hid (show W5.heap[g]? = some (.cells #[.int .i64 2, .bool false, .int .i64 (a + b), .string ByteArray.empty, .string ByteArray.empty, .string ByteArray.empty, .slice zA5 0 zc5, .slice zB5 0 zd5] 28 (0, 0)) from hrow)
    clear hV hlen hx hp hg hrow hz hat he HA4 HB4 HX4 HS4
    have hr0 := HR0.out.1
    have hr1 := HR0.out.2
    have hmu : wrap64 (a * b) = a * b := by have := mul_fit hA.out hB.out; unfold wrap64; omega
    have HA6 := Lib.hid ((heap_alloc_old W5 (.cells #[.int .i64 (a + b), .int .i64 (a - b), .int .i64 (a * b), .int .i64 (-a)] 2) (Blk_lt HA5.out)).trans HA5.out)
    have HB6 := Lib.hid ((heap_alloc_old W5 (.cells #[.int .i64 (a + b), .int .i64 (a - b), .int .i64 (a * b), .int .i64 (-a)] 2) (Blk_lt HB5.out)).trans HB5.out)
    have HP6 := Lib.hid ((heap_alloc_old W5 (.cells #[.int .i64 (a + b), .int .i64 (a - b), .int .i64 (a * b), .int .i64 (-a)] 2) (Blk_lt HQa5.out)).trans HQa5.out)
    have HX6 := Lib.hid (HX5.out.alloc (.cells #[.int .i64 (a + b), .int .i64 (a - b), .int .i64 (a * b), .int .i64 (-a)] 2))
    clear HA5 HB5 HQa5 HX5
    go_wp2_with (first | (with_reducible refine at_load ?_; refine wpList_load_cells rfl 31 _ rfl w2.heap.size 0 rfl Tryd.aggEx Tryd.sizeEx (cs := [.int .i64 1, .int .i64 2, .bool false, .int .i64 a, .string ByteArray.empty, .string ByteArray.empty, .string ByteArray.empty, .slice none 0 0, .slice none 0 0, .string ByteArray.empty, .slice none 0 0, .slice none 0 0]) rfl (cells_of_row HA6.out) ?_) | (with_reducible refine at_load ?_; refine wpList_load_cells rfl 31 _ rfl w3.heap.size 0 rfl Tryd.aggEx Tryd.sizeEx (cs := [.int .i64 1, .int .i64 2, .bool false, .int .i64 b, .string ByteArray.empty, .string ByteArray.empty, .string ByteArray.empty, .slice none 0 0, .slice none 0 0, .string ByteArray.empty, .slice none 0 0, .slice none 0 0]) rfl (cells_of_row HB6.out) ?_))
    obtain ⟨w6, hW⟩ : ∃ W, W = W5.alloc (.cells #[.int .i64 (a + b), .int .i64 (a - b), .int .i64 (a * b), .int .i64 (-a)] 2) := ⟨_, rfl⟩
    rw [← hW] at HA6 HB6 HP6 HX6 ⊢
    have Hsz := Lib.hid (show w6.heap.size = W5.heap.size + 1 by rw [hW]; simp)
    clear hW
    have HS6 := Lib.hid (HS.out.ext HX6.out)
    obtain ⟨tl, htl⟩ : ∃ t, decide (a < b) = t := ⟨_, rfl⟩
    obtain ⟨tm, htm⟩ : ∃ t, decide (a ≤ b) = t := ⟨_, rfl⟩
    have hI := Lib.hid (show I64 a from by unfold I64; omega)
    have hJ := Lib.hid (show I64 b from by unfold I64; omega)
    clear hmu hr0 hr1
    obtain ⟨x7, hW⟩ : ∃ W, W = w6.alloc (.cells #[.int .i64 1, .int .i64 2, .bool false, .int .i64 a, .string ByteArray.empty, .string ByteArray.empty, .string ByteArray.empty, .slice none 0 0, .slice none 0 0, .string ByteArray.empty, .slice none 0 0, .slice none 0 0, .int .i64 1, .int .i64 2, .bool false, .int .i64 b, .string ByteArray.empty, .string ByteArray.empty, .string ByteArray.empty, .slice none 0 0, .slice none 0 0, .string ByteArray.empty, .slice none 0 0, .slice none 0 0] 31) := ⟨_, rfl⟩
    have HR := Lib.hid (show x7.heap[W5.heap.size + 1]? = some (.cells #[.int .i64 1, .int .i64 2, .bool false, .int .i64 a, .string ByteArray.empty, .string ByteArray.empty, .string ByteArray.empty, .slice none 0 0, .slice none 0 0, .string ByteArray.empty, .slice none 0 0, .slice none 0 0, .int .i64 1, .int .i64 2, .bool false, .int .i64 b, .string ByteArray.empty, .string ByteArray.empty, .string ByteArray.empty, .slice none 0 0, .slice none 0 0, .string ByteArray.empty, .slice none 0 0, .slice none 0 0] 31 (0, 0)) by rw [hW, ← Hsz.out]; exact heap_alloc_new _ _)
    have hxx : Ext w6 x7 := by rw [hW]; exact (Ext.refl _).alloc _
    rw [← hW]
    clear hW
    have hk : expR.RowsAt (fun b => b < x7.heap.size) x7 [.lit (.whole a), .lit (.whole b)] (.slice (some ⟨W5.heap.size + 1, 0, none⟩) 2 2) := kids_at (xs := [.int .i64 1, .int .i64 2, .bool false, .int .i64 a, .string ByteArray.empty, .string ByteArray.empty, .string ByteArray.empty, .slice none 0 0, .slice none 0 0, .string ByteArray.empty, .slice none 0 0, .slice none 0 0, .int .i64 1, .int .i64 2, .bool false, .int .i64 b, .string ByteArray.empty, .string ByteArray.empty, .string ByteArray.empty, .slice none 0 0, .slice none 0 0, .string ByteArray.empty, .slice none 0 0, .slice none 0 0]) HR.out (flat_cons (cs := [.int .i64 1, .int .i64 2, .bool false, .int .i64 a, .string ByteArray.empty, .string ByteArray.empty, .string ByteArray.empty, .slice none 0 0, .slice none 0 0, .string ByteArray.empty, .slice none 0 0, .slice none 0 0]) (lit_at (whole_at _ _ a (show I64 a by unfold I64; omega))) (flat_cons (cs := [.int .i64 1, .int .i64 2, .bool false, .int .i64 b, .string ByteArray.empty, .string ByteArray.empty, .string ByteArray.empty, .slice none 0 0, .slice none 0 0, .string ByteArray.empty, .slice none 0 0, .slice none 0 0]) (lit_at (whole_at _ _ b (show I64 b by unfold I64; omega))) flat_nil)) (by rw [LIM_eq]; simp) rfl (by simp) (by rw [maxLen_eq]; omega)
    have hc := evalN_ok (.of 9 [.lit (.whole a), .lit (.whole b)]) (.truth tl, 0) x7 (opC 9 (.slice (some ⟨W5.heap.size + 1, 0, none⟩) 2 2)) (by rw [two_nums _ _ _ _ _ (by omega), two_less, htl]; rfl) (by rw [Exp.of_dep]; simp [Exp.deps, Exp.lit_dep]) (Exp.of_lits (by omega) (by intro x hx; simp at hx; rcases hx with rfl | rfl <;> exact whole_lits _)) (of_num (by simp [Num6]) (by intro x hx; simp at hx; rcases hx with rfl | rfl <;> exact lit_num _)) (of_at (by unfold I64; omega) hk) (HS6.out.ext hxx)
    refine hc.mono ?_
    rintro e7 w7 ⟨cv, rfl, hv, hx7⟩
    obtain ⟨zA7, zc7, zB7, zd7, rfl⟩ := hv.opened
    have hxx := (hxx.trans hx7).alloc (.cells #[.int .i64 1, .bool tl, .int .i64 0, .string ByteArray.empty, .string ByteArray.empty, .string ByteArray.empty, .slice zA7 0 zc7, .slice zB7 0 zd7] 28)
    have HA7 := Lib.hid ((hxx.block _ (Blk_lt HA6.out)).trans HA6.out)
    have HB7 := Lib.hid ((hxx.block _ (Blk_lt HB6.out)).trans HB6.out)
    have HP7 := Lib.hid ((hxx.block _ (Blk_lt HP6.out)).trans HP6.out)
    have HX7 := Lib.hid (HX6.out.trans hxx)
    have HS7 := Lib.hid (HS6.out.ext hxx)
    have HL7 := Lib.hid (heap_alloc_new w7 (.cells #[.int .i64 1, .bool tl, .int .i64 0, .string ByteArray.empty, .string ByteArray.empty, .string ByteArray.empty, .slice zA7 0 zc7, .slice zB7 0 zd7] 28))
    clear hk hc hv hx7 HR hxx Hsz HX6 HS6 HA6 HB6 HP6
    go_wp2_with (first | (with_reducible refine at_load ?_; refine wpList_load_cells rfl 31 _ rfl w2.heap.size 0 rfl Tryd.aggEx Tryd.sizeEx (cs := [.int .i64 1, .int .i64 2, .bool false, .int .i64 a, .string ByteArray.empty, .string ByteArray.empty, .string ByteArray.empty, .slice none 0 0, .slice none 0 0, .string ByteArray.empty, .slice none 0 0, .slice none 0 0]) rfl (cells_of_row HA7.out) ?_) | (with_reducible refine at_load ?_; refine wpList_load_cells rfl 31 _ rfl w3.heap.size 0 rfl Tryd.aggEx Tryd.sizeEx (cs := [.int .i64 1, .int .i64 2, .bool false, .int .i64 b, .string ByteArray.empty, .string ByteArray.empty, .string ByteArray.empty, .slice none 0 0, .slice none 0 0, .string ByteArray.empty, .slice none 0 0, .slice none 0 0]) rfl (cells_of_row HB7.out) ?_))
    obtain ⟨w7', hW⟩ : ∃ W, W = w7.alloc (.cells #[.int .i64 1, .bool tl, .int .i64 0, .string ByteArray.empty, .string ByteArray.empty, .string ByteArray.empty, .slice zA7 0 zc7, .slice zB7 0 zd7] 28) := ⟨_, rfl⟩
    rw [← hW] at HA7 HB7 HP7 HL7 HX7 HS7 ⊢
    have Hsz := Lib.hid (show w7'.heap.size = w7.heap.size + 1 by rw [hW]; simp)
    clear hW
    obtain ⟨x8, hW⟩ : ∃ W, W = w7'.alloc (.cells #[.int .i64 1, .int .i64 2, .bool false, .int .i64 a, .string ByteArray.empty, .string ByteArray.empty, .string ByteArray.empty, .slice none 0 0, .slice none 0 0, .string ByteArray.empty, .slice none 0 0, .slice none 0 0, .int .i64 1, .int .i64 2, .bool false, .int .i64 b, .string ByteArray.empty, .string ByteArray.empty, .string ByteArray.empty, .slice none 0 0, .slice none 0 0, .string ByteArray.empty, .slice none 0 0, .slice none 0 0] 31) := ⟨_, rfl⟩
    have HR := Lib.hid (show x8.heap[w7.heap.size + 1]? = some (.cells #[.int .i64 1, .int .i64 2, .bool false, .int .i64 a, .string ByteArray.empty, .string ByteArray.empty, .string ByteArray.empty, .slice none 0 0, .slice none 0 0, .string ByteArray.empty, .slice none 0 0, .slice none 0 0, .int .i64 1, .int .i64 2, .bool false, .int .i64 b, .string ByteArray.empty, .string ByteArray.empty, .string ByteArray.empty, .slice none 0 0, .slice none 0 0, .string ByteArray.empty, .slice none 0 0, .slice none 0 0] 31 (0, 0)) by rw [hW, ← Hsz.out]; exact heap_alloc_new _ _)
    have hxx : Ext w7' x8 := by rw [hW]; exact (Ext.refl _).alloc _
    rw [← hW]
    clear hW
    have hk : expR.RowsAt (fun b => b < x8.heap.size) x8 [.lit (.whole a), .lit (.whole b)] (.slice (some ⟨w7.heap.size + 1, 0, none⟩) 2 2) := kids_at (xs := [.int .i64 1, .int .i64 2, .bool false, .int .i64 a, .string ByteArray.empty, .string ByteArray.empty, .string ByteArray.empty, .slice none 0 0, .slice none 0 0, .string ByteArray.empty, .slice none 0 0, .slice none 0 0, .int .i64 1, .int .i64 2, .bool false, .int .i64 b, .string ByteArray.empty, .string ByteArray.empty, .string ByteArray.empty, .slice none 0 0, .slice none 0 0, .string ByteArray.empty, .slice none 0 0, .slice none 0 0]) HR.out (flat_cons (cs := [.int .i64 1, .int .i64 2, .bool false, .int .i64 a, .string ByteArray.empty, .string ByteArray.empty, .string ByteArray.empty, .slice none 0 0, .slice none 0 0, .string ByteArray.empty, .slice none 0 0, .slice none 0 0]) (lit_at (whole_at _ _ a (show I64 a by unfold I64; omega))) (flat_cons (cs := [.int .i64 1, .int .i64 2, .bool false, .int .i64 b, .string ByteArray.empty, .string ByteArray.empty, .string ByteArray.empty, .slice none 0 0, .slice none 0 0, .string ByteArray.empty, .slice none 0 0, .slice none 0 0]) (lit_at (whole_at _ _ b (show I64 b by unfold I64; omega))) flat_nil)) (by rw [LIM_eq]; simp) rfl (by simp) (by rw [maxLen_eq]; omega)
    have hc := evalN_ok (.of 10 [.lit (.whole a), .lit (.whole b)]) (.truth tm, 0) x8 (opC 10 (.slice (some ⟨w7.heap.size + 1, 0, none⟩) 2 2)) (by rw [two_nums _ _ _ _ _ (by omega), two_le, htm]; rfl) (by rw [Exp.of_dep]; simp [Exp.deps, Exp.lit_dep]) (Exp.of_lits (by omega) (by intro x hx; simp at hx; rcases hx with rfl | rfl <;> exact whole_lits _)) (of_num (by simp [Num6]) (by intro x hx; simp at hx; rcases hx with rfl | rfl <;> exact lit_num _)) (of_at (by unfold I64; omega) hk) (HS7.out.ext hxx)
    refine hc.mono ?_
    rintro e8 w8 ⟨cv, rfl, hv, hx8⟩
    obtain ⟨zA8, zc8, zB8, zd8, rfl⟩ := hv.opened
    have hxx := (hxx.trans hx8).alloc (.cells #[.int .i64 1, .bool tm, .int .i64 0, .string ByteArray.empty, .string ByteArray.empty, .string ByteArray.empty, .slice zA8 0 zc8, .slice zB8 0 zd8] 28)
    have HA8 := Lib.hid ((hxx.block _ (Blk_lt HA7.out)).trans HA7.out)
    have HB8 := Lib.hid ((hxx.block _ (Blk_lt HB7.out)).trans HB7.out)
    have HP8 := Lib.hid ((hxx.block _ (Blk_lt HP7.out)).trans HP7.out)
    have HL8 := Lib.hid ((hxx.block _ (Blk_lt HL7.out)).trans HL7.out)
    have HX8 := Lib.hid (HX7.out.trans hxx)
    have HS8 := Lib.hid (HS7.out.ext hxx)
    have HM8 := Lib.hid (heap_alloc_new w8 (.cells #[.int .i64 1, .bool tm, .int .i64 0, .string ByteArray.empty, .string ByteArray.empty, .string ByteArray.empty, .slice zA8 0 zc8, .slice zB8 0 zd8] 28))
    clear hk hc hv hx8 HR hxx Hsz HX7 HS7 HA7 HB7 HP7 HL7
    go_wp2_with fail
    refine (lit_ok 2 false 9223372036854775807 ByteArray.empty ByteArray.empty ByteArray.empty none 0 0 none 0 0 _).mono ?_
    rintro e10 w10 ⟨rfl, hx10⟩
    have hxx := hx10.alloc (.cells #[.int .i64 1, .int .i64 2, .bool false, .int .i64 9223372036854775807, .string ByteArray.empty, .string ByteArray.empty, .string ByteArray.empty, .slice none 0 0, .slice none 0 0, .string ByteArray.empty, .slice none 0 0, .slice none 0 0] 31)
    have HP9 := Lib.hid ((hxx.block _ (Blk_lt HP8.out)).trans HP8.out)
    have HL9 := Lib.hid ((hxx.block _ (Blk_lt HL8.out)).trans HL8.out)
    have HM9 := Lib.hid ((hxx.block _ (Blk_lt HM8.out)).trans HM8.out)
    have HX9 := Lib.hid (HX8.out.trans hxx)
    have HS9 := Lib.hid (HS8.out.ext hxx)
    have HG9 := Lib.hid (heap_alloc_new w10 (.cells #[.int .i64 1, .int .i64 2, .bool false, .int .i64 9223372036854775807, .string ByteArray.empty, .string ByteArray.empty, .string ByteArray.empty, .slice none 0 0, .slice none 0 0, .string ByteArray.empty, .slice none 0 0, .slice none 0 0] 31))
    clear hx10 hxx HP8 HL8 HM8 HX8 HS8 HA8 HB8
    go_wp2_with fail
    obtain ⟨w11, hW⟩ : ∃ W, W = w10.alloc (.cells #[.int .i64 1, .int .i64 2, .bool false, .int .i64 9223372036854775807, .string ByteArray.empty, .string ByteArray.empty, .string ByteArray.empty, .slice none 0 0, .slice none 0 0, .string ByteArray.empty, .slice none 0 0, .slice none 0 0] 31) := ⟨_, rfl⟩
    rw [← hW] at HP9 HL9 HM9 HX9 HS9 HG9 ⊢
    clear hW
    refine region_askV (fun b => b < w11.heap.size) w11.heap.size 6 13 100 93 101 102 19 rfl (SumV w11 [.int .i64 1, .int .i64 2, .bool false, .int .i64 9223372036854775807, .string ByteArray.empty, .string ByteArray.empty, .string ByteArray.empty, .slice none 0 0, .slice none 0 0, .string ByteArray.empty, .slice none 0 0, .slice none 0 0] [.int .i64 1, .int .i64 2, .bool false, .int .i64 1, .string ByteArray.empty, .string ByteArray.empty, .string ByteArray.empty, .slice none 0 0, .slice none 0 0, .string ByteArray.empty, .slice none 0 0, .slice none 0 0]) (.zero, 14) (by kernel_rfl) (by kernel_rfl) (by kernel_rfl) (fun _ h => h) (Nat.le_refl _) (fun i v W W' _ h _ k => h.ext i v W W' k) (fun i v W g cur row _ h _ _ hc => h.row i v W hc)
      ⟨_, _, _, _, _, _, _, rfl, rfl, rfl, rfl, rfl, rfl, rfl, rfl, rfl, rfl, rfl, rfl, rfl⟩ ⟨by kernel_rfl, by kernel_rfl, by kernel_rfl, by kernel_rfl, by kernel_rfl⟩ ⟨by kernel_rfl, by kernel_rfl, by kernel_rfl, by kernel_rfl, by kernel_rfl, by kernel_rfl⟩ (fun i o hi ho W5 c hx hold hf Q K hK => ?_) (fun o ho W5 c hx hold hf => ?_) (fun xs W12 z cv g2 hlen hx hV hp hg hrow hz hat he => ?_)
    · rcases (by omega : i = 0 ∨ i = 1 ∨ i = 2 ∨ i = 3 ∨ i = 4 ∨ i = 5) with rfl | rfl | rfl | rfl | rfl | rfl <;> obtain rfl := Option.some.inj ho
      · exact wp_known (exec_load_cells 31 _ rfl w10.heap.size 0 (hold 18 (by kernel_rfl)) Tryd.aggEx Tryd.sizeEx (cs := [.int .i64 1, .int .i64 2, .bool false, .int .i64 9223372036854775807, .string ByteArray.empty, .string ByteArray.empty, .string ByteArray.empty, .slice none 0 0, .slice none 0 0, .string ByteArray.empty, .slice none 0 0, .slice none 0 0]) rfl (cells_of_row ((hx.block _ (Blk_lt HG9.out)).trans HG9.out))) hK
      · exact wp_known (exec_bldX rfl (by simp only [List.map_toArray, List.map_cons, List.map_nil]; rfl) (Tryd.bldV 1 W5)) hK
      · refine wp_enters (Φ := fun v _ => v = .agg ([.int .i64 1, .int .i64 2, .bool false, .int .i64 1, .string ByteArray.empty, .string ByteArray.empty, .string ByteArray.empty, .slice none 0 0, .slice none 0 0, .string ByteArray.empty, .slice none 0 0, .slice none 0 0] : List Value).toArray) (exec_call Tryd.func6 rfl rfl rfl (map_one (hf 1 95 (by omega) (by kernel_rfl) (by kernel_rfl)))) ((lit_ok 2 false 1 ByteArray.empty ByteArray.empty ByteArray.empty none 0 0 none 0 0 W5).mono fun e W3 ⟨he, hx3⟩ => ⟨_, he, hx3, rfl⟩) hK
      · have k1 : c.eval (.tmp 94) = .agg ([.int .i64 1, .int .i64 2, .bool false, .int .i64 9223372036854775807, .string ByteArray.empty, .string ByteArray.empty, .string ByteArray.empty, .slice none 0 0, .slice none 0 0, .string ByteArray.empty, .slice none 0 0, .slice none 0 0] : List Value).toArray := (hf 0 94 (by omega) (by kernel_rfl) (by kernel_rfl))
        have k2 : c.eval (.tmp 96) = .agg ([.int .i64 1, .int .i64 2, .bool false, .int .i64 1, .string ByteArray.empty, .string ByteArray.empty, .string ByteArray.empty, .slice none 0 0, .slice none 0 0, .string ByteArray.empty, .slice none 0 0, .slice none 0 0] : List Value).toArray := (hf 2 96 (by omega) (by kernel_rfl) (by kernel_rfl))
        exact wp_leaves (Φ := SumV w11 [.int .i64 1, .int .i64 2, .bool false, .int .i64 9223372036854775807, .string ByteArray.empty, .string ByteArray.empty, .string ByteArray.empty, .slice none 0 0, .slice none 0 0, .string ByteArray.empty, .slice none 0 0, .slice none 0 0] [.int .i64 1, .int .i64 2, .bool false, .int .i64 1, .string ByteArray.empty, .string ByteArray.empty, .string ByteArray.empty, .slice none 0 0, .slice none 0 0, .string ByteArray.empty, .slice none 0 0, .slice none 0 0] 3) (exec_buildN _ _ _ rfl (by simp only [List.map_toArray, List.map_cons, List.map_nil, k1, k2]) (Tryd.rowN2 [.int .i64 1, .int .i64 2, .bool false, .int .i64 9223372036854775807, .string ByteArray.empty, .string ByteArray.empty, .string ByteArray.empty, .slice none 0 0, .slice none 0 0, .string ByteArray.empty, .slice none 0 0, .slice none 0 0] [.int .i64 1, .int .i64 2, .bool false, .int .i64 1, .string ByteArray.empty, .string ByteArray.empty, .string ByteArray.empty, .slice none 0 0, .slice none 0 0, .string ByteArray.empty, .slice none 0 0, .slice none 0 0] rfl rfl W5)) ((Ext.refl W5).alloc _) ⟨_, rfl, hx.size, heap_alloc_new _ _⟩ hK
      · obtain ⟨A, k2, h1, h2⟩ := (hf 3 97 (by omega) (by kernel_rfl) (by kernel_rfl))
        exact wp_leaves (Φ := SumV w11 [.int .i64 1, .int .i64 2, .bool false, .int .i64 9223372036854775807, .string ByteArray.empty, .string ByteArray.empty, .string ByteArray.empty, .slice none 0 0, .slice none 0 0, .string ByteArray.empty, .slice none 0 0, .slice none 0 0] [.int .i64 1, .int .i64 2, .bool false, .int .i64 1, .string ByteArray.empty, .string ByteArray.empty, .string ByteArray.empty, .slice none 0 0, .slice none 0 0, .string ByteArray.empty, .slice none 0 0, .slice none 0 0] 4) (exec_bldX rfl (by simp only [List.map_toArray, List.map_cons, List.map_nil, k2]; rfl) (Tryd.bldN 11 _ _ _ W5)) (Ext.refl W5) ⟨A, rfl, h1, h2⟩ hK
      · exact wp_known (exec_bldX rfl (by simp only [List.map_toArray, List.map_nil]) (Tryd.bldQ W5)) hK
    · obtain rfl := Option.some.inj ho
      obtain ⟨A, k1, hr1, hr2⟩ := (hf 4 98 (by omega) (by kernel_rfl) (by kernel_rfl))
      have hk : expR.RowsAt (fun b => b < W5.heap.size) W5 [.lit (.whole 9223372036854775807), .lit (.whole 1)] (.slice (some ⟨A, 0, none⟩) 2 2) := kids_at (xs := [.int .i64 1, .int .i64 2, .bool false, .int .i64 9223372036854775807, .string ByteArray.empty, .string ByteArray.empty, .string ByteArray.empty, .slice none 0 0, .slice none 0 0, .string ByteArray.empty, .slice none 0 0, .slice none 0 0] ++ [.int .i64 1, .int .i64 2, .bool false, .int .i64 1, .string ByteArray.empty, .string ByteArray.empty, .string ByteArray.empty, .slice none 0 0, .slice none 0 0, .string ByteArray.empty, .slice none 0 0, .slice none 0 0]) hr2 (flat_cons (cs := [.int .i64 1, .int .i64 2, .bool false, .int .i64 9223372036854775807, .string ByteArray.empty, .string ByteArray.empty, .string ByteArray.empty, .slice none 0 0, .slice none 0 0, .string ByteArray.empty, .slice none 0 0, .slice none 0 0]) (lit_at (whole_at _ _ 9223372036854775807 (by unfold I64; omega))) (flat_cons (cs := [.int .i64 1, .int .i64 2, .bool false, .int .i64 1, .string ByteArray.empty, .string ByteArray.empty, .string ByteArray.empty, .slice none 0 0, .slice none 0 0, .string ByteArray.empty, .slice none 0 0, .slice none 0 0]) (lit_at (whole_at _ _ 1 (by unfold I64; omega))) flat_nil)) (by rw [LIM_eq]; simp) rfl (by simp) (by rw [maxLen_eq]; omega)
      refine ⟨_, _, exec_call Tryd.func7 rfl rfl rfl (map_three k1 (hf 5 99 (by omega) (by kernel_rfl) (by kernel_rfl)) rfl), (evalN_ok (.of 11 [.lit (.whole 9223372036854775807), .lit (.whole 1)]) (.zero, 14) W5 (opC 11 (.slice (some ⟨A, 0, none⟩) 2 2)) (by rw [two_nums _ _ _ _ _ (by omega), two_add, fitI_out (by omega)]; rfl) (by rw [Exp.of_dep]; simp [Exp.deps, Exp.lit_dep]) (Exp.of_lits (by omega) (by intro x hx; simp at hx; rcases hx with rfl | rfl <;> exact whole_lits _)) (of_num (by simp [Num6]) (by intro x hx; simp at hx; rcases hx with rfl | rfl <;> exact lit_num _)) (of_at (by unfold I64; omega) hk) (HS9.out.ext hx)).mono fun e w' h => refAns_fresh h⟩
    · obtain ⟨u0, u1, u2, u3, u4, u5, u6, u7, u8, u9, v0, v1, v2, rfl⟩ := list13n hlen
      have hp : v0 = .pointer (some ⟨g2, 0, none⟩) := hp
      have he : v2 = .int .i64 14 := he
      subst hp he
      simp only [List.take, List.drop, putAll, Act.put, List.setIfInBounds_toArray, List.set_cons_zero, List.set_cons_succ]
      have HPe := Lib.hid ((hx.block _ (Blk_lt HP9.out)).trans HP9.out)
      have HLe := Lib.hid ((hx.block _ (Blk_lt HL9.out)).trans HL9.out)
      have HMe := Lib.hid ((hx.block _ (Blk_lt HM9.out)).trans HM9.out)
      have HXe := Lib.hid (HX9.out.trans hx)
      have f0 : W12.cell? ⟨g, 0, none⟩ = some (.int .i64 2) := cell_of_row _ _ 0 _ _ _ HPe.out
      have f1 : W12.cell? ⟨g, 2, none⟩ = some (.int .i64 (a + b)) := cell_of_row _ _ 2 _ _ _ HPe.out
      have f2 : W12.cell? ⟨w7.heap.size, 1, none⟩ = some (.bool tl) := cell_of_row _ _ 1 _ _ _ HLe.out
      have f3 : W12.cell? ⟨w8.heap.size, 1, none⟩ = some (.bool tm) := cell_of_row _ _ 1 _ _ _ HMe.out
      clear hV hlen hx hp hg hrow hz hat he HP9 HL9 HM9 HX9 HS9 HG9
      have q1 : (tl == tl) = true := by simp
      have q2 : (tm == tm) = true := by simp
      go_wp2_with fail
      go_ret
      exact ⟨rfl, HXe.out⟩
set_option maxRecDepth 100000 in
set_option maxHeartbeats 4000000 in
theorem evalNumbers_1 (a b op : Int) (ha : -2147483648 ≤ a ∧ a ≤ 2147483647) (hb : -2147483648 ≤ b ∧ b ≤ 2147483647) (hk : op % 4 = 1) (W : World) (hs : Sums W) :
    Calls Tryd.prog 3 #[.int .i32 a, .int .i32 b, .int .i64 op] W fun e W' => e = .returned (.bool true) ∧ Ext W W' := by
  have hA := Lib.hid ha
  have hB := Lib.hid hb
  have HS := Lib.hid hs
  have hop : bits .and .i64 op 3 = 1 := by rw [i64_and3n]; exact hk
  obtain ⟨a0, a1⟩ := ha
  obtain ⟨b0, b1⟩ := hb
  clear hk hs
  go_enter Tryd.func3, Tryd.ntmps3
  go_wp2_with fail
  refine (awake14_ok W HS.out).mono ?_
  rintro e1 w1 ⟨rfl, hx1⟩
  have HX1 := Lib.hid hx1
  clear hx1
  go_wp2_with fail
  refine (lit_ok 2 false a ByteArray.empty ByteArray.empty ByteArray.empty none 0 0 none 0 0 _).mono ?_
  rintro e2 w2 ⟨rfl, hx2⟩
  have HX2 := Lib.hid (HX1.out.trans hx2)
  clear hx2 HX1
  go_wp2_with fail
  refine (lit_ok 2 false b ByteArray.empty ByteArray.empty ByteArray.empty none 0 0 none 0 0 _).mono ?_
  rintro e3 w3 ⟨rfl, hx3⟩
  have HA3 := Lib.hid ((hx3.block _ (by simp)).trans (heap_alloc_new w2 (.cells #[.int .i64 1, .int .i64 2, .bool false, .int .i64 a, .string ByteArray.empty, .string ByteArray.empty, .string ByteArray.empty, .slice none 0 0, .slice none 0 0, .string ByteArray.empty, .slice none 0 0, .slice none 0 0] 31)))
  have HX3 := Lib.hid ((HX2.out.alloc (.cells #[.int .i64 1, .int .i64 2, .bool false, .int .i64 a, .string ByteArray.empty, .string ByteArray.empty, .string ByteArray.empty, .slice none 0 0, .slice none 0 0, .string ByteArray.empty, .slice none 0 0, .slice none 0 0] 31)).trans hx3)
  clear hx3 HX2
  go_wp2_with fail
  have HA4 := Lib.hid ((heap_alloc_old w3 (.cells #[.int .i64 1, .int .i64 2, .bool false, .int .i64 b, .string ByteArray.empty, .string ByteArray.empty, .string ByteArray.empty, .slice none 0 0, .slice none 0 0, .string ByteArray.empty, .slice none 0 0, .slice none 0 0] 31) (Blk_lt HA3.out)).trans HA3.out)
  have HB4 := Lib.hid (heap_alloc_new w3 (.cells #[.int .i64 1, .int .i64 2, .bool false, .int .i64 b, .string ByteArray.empty, .string ByteArray.empty, .string ByteArray.empty, .slice none 0 0, .slice none 0 0, .string ByteArray.empty, .slice none 0 0, .slice none 0 0] 31))
  have HX4 := Lib.hid (HX3.out.alloc (.cells #[.int .i64 1, .int .i64 2, .bool false, .int .i64 b, .string ByteArray.empty, .string ByteArray.empty, .string ByteArray.empty, .slice none 0 0, .slice none 0 0, .string ByteArray.empty, .slice none 0 0, .slice none 0 0] 31))
  obtain ⟨w4, hW⟩ : ∃ W, W = w3.alloc (.cells #[.int .i64 1, .int .i64 2, .bool false, .int .i64 b, .string ByteArray.empty, .string ByteArray.empty, .string ByteArray.empty, .slice none 0 0, .slice none 0 0, .string ByteArray.empty, .slice none 0 0, .slice none 0 0] 31) := ⟨_, rfl⟩
  rw [← hW] at HA4 HB4 HX4 ⊢
  clear hW
  have HS4 := Lib.hid (HS.out.ext HX4.out)
  have HR0 := Lib.hid (show -9223372036854775808 ≤ a - b ∧ a - b ≤ 9223372036854775807 from by omega)
  clear HA3 HX3 hop
  refine region_askV (fun b => b < w4.heap.size) w4.heap.size 13 20 48 34 49 50 11 rfl (NumV w4 1 12 2 [.int .i64 1, .int .i64 2, .bool false, .int .i64 a, .string ByteArray.empty, .string ByteArray.empty, .string ByteArray.empty, .slice none 0 0, .slice none 0 0, .string ByteArray.empty, .slice none 0 0, .slice none 0 0] [.int .i64 1, .int .i64 2, .bool false, .int .i64 b, .string ByteArray.empty, .string ByteArray.empty, .string ByteArray.empty, .slice none 0 0, .slice none 0 0, .string ByteArray.empty, .slice none 0 0, .slice none 0 0]) (.whole (a - b), 0) (by kernel_rfl) (by kernel_rfl) (by kernel_rfl) (fun _ h => h) (Nat.le_refl _) (fun i v W W' _ h _ k => h.ext i v W W' k) (fun i v W g cur row _ h _ _ hc => h.row i v W hc)
    ⟨_, _, _, _, _, _, _, rfl, rfl, rfl, rfl, rfl, rfl, rfl, rfl, rfl, rfl, rfl, rfl, rfl⟩ ⟨by kernel_rfl, by kernel_rfl, by kernel_rfl, by kernel_rfl, by kernel_rfl⟩ ⟨by kernel_rfl, by kernel_rfl, by kernel_rfl, by kernel_rfl, by kernel_rfl, by kernel_rfl⟩ (fun i o hi ho W5 c hx hold hf Q K hK => ?_) (fun o ho W5 c hx hold hf => ?_) (fun xs W5 z cv g hlen hx hV hp hg hrow hz hat he => ?_)
  · rcases (by omega : i = 0 ∨ i = 1 ∨ i = 2 ∨ i = 3 ∨ i = 4 ∨ i = 5 ∨ i = 6 ∨ i = 7 ∨ i = 8 ∨ i = 9 ∨ i = 10 ∨ i = 11 ∨ i = 12) with rfl | rfl | rfl | rfl | rfl | rfl | rfl | rfl | rfl | rfl | rfl | rfl | rfl <;> obtain rfl := Option.some.inj ho
    · exact wp_leaves (Φ := (NumV w4 1 12 2 [.int .i64 1, .int .i64 2, .bool false, .int .i64 a, .string ByteArray.empty, .string ByteArray.empty, .string ByteArray.empty, .slice none 0 0, .slice none 0 0, .string ByteArray.empty, .slice none 0 0, .slice none 0 0] [.int .i64 1, .int .i64 2, .bool false, .int .i64 b, .string ByteArray.empty, .string ByteArray.empty, .string ByteArray.empty, .slice none 0 0, .slice none 0 0, .string ByteArray.empty, .slice none 0 0, .slice none 0 0]) 0) (exec_buildN _ _ _ rfl (by simp only [List.map_toArray, List.map_cons, List.map_nil]; rfl) (Tryd.buildN4 W5)) ((Ext.refl W5).alloc _) ⟨_, rfl, heap_alloc_new _ _⟩ hK
    · exact wp_known (exec_move rfl (hold 10 (by kernel_rfl))) hK
    · obtain ⟨A, k1, h1⟩ := (hf 0 35 (by omega) (by kernel_rfl) (by kernel_rfl))
      exact wp_leaves (Φ := (NumV w4 1 12 2 [.int .i64 1, .int .i64 2, .bool false, .int .i64 a, .string ByteArray.empty, .string ByteArray.empty, .string ByteArray.empty, .slice none 0 0, .slice none 0 0, .string ByteArray.empty, .slice none 0 0, .slice none 0 0] [.int .i64 1, .int .i64 2, .bool false, .int .i64 b, .string ByteArray.empty, .string ByteArray.empty, .string ByteArray.empty, .slice none 0 0, .slice none 0 0, .string ByteArray.empty, .slice none 0 0, .slice none 0 0]) 2) (exec_index rfl k1 (hf 1 36 (by omega) (by kernel_rfl) (by kernel_rfl)) Tryd.undIs Tryd.sizIs (by omega)) (Ext.refl W5) ⟨A, rfl, h1⟩ hK
    · obtain ⟨A, k1, h1⟩ := (hf 2 37 (by omega) (by kernel_rfl) (by kernel_rfl))
      exact wp_known (exec_load_one 3 _ rfl A (0 + 1 * 1) k1 Tryd.aggIs (cell_of_row _ _ 1 _ _ _ h1)) hK
    · exact wp_known (exec_load_cells 31 _ rfl w2.heap.size 0 (hold 8 (by kernel_rfl)) Tryd.aggEx Tryd.sizeEx (cs := [.int .i64 1, .int .i64 2, .bool false, .int .i64 a, .string ByteArray.empty, .string ByteArray.empty, .string ByteArray.empty, .slice none 0 0, .slice none 0 0, .string ByteArray.empty, .slice none 0 0, .slice none 0 0]) rfl (cells_of_row ((hx.block _ (Blk_lt HA4.out)).trans HA4.out))) hK
    · exact wp_known (exec_load_cells 31 _ rfl w3.heap.size 0 (hold 9 (by kernel_rfl)) Tryd.aggEx Tryd.sizeEx (cs := [.int .i64 1, .int .i64 2, .bool false, .int .i64 b, .string ByteArray.empty, .string ByteArray.empty, .string ByteArray.empty, .slice none 0 0, .slice none 0 0, .string ByteArray.empty, .slice none 0 0, .slice none 0 0]) rfl (cells_of_row ((hx.block _ (Blk_lt HB4.out)).trans HB4.out))) hK
    · have k1 : c.eval (.tmp 39) = .agg ([.int .i64 1, .int .i64 2, .bool false, .int .i64 a, .string ByteArray.empty, .string ByteArray.empty, .string ByteArray.empty, .slice none 0 0, .slice none 0 0, .string ByteArray.empty, .slice none 0 0, .slice none 0 0] : List Value).toArray := (hf 4 39 (by omega) (by kernel_rfl) (by kernel_rfl))
      have k2 : c.eval (.tmp 40) = .agg ([.int .i64 1, .int .i64 2, .bool false, .int .i64 b, .string ByteArray.empty, .string ByteArray.empty, .string ByteArray.empty, .slice none 0 0, .slice none 0 0, .string ByteArray.empty, .slice none 0 0, .slice none 0 0] : List Value).toArray := (hf 5 40 (by omega) (by kernel_rfl) (by kernel_rfl))
      exact wp_leaves (Φ := (NumV w4 1 12 2 [.int .i64 1, .int .i64 2, .bool false, .int .i64 a, .string ByteArray.empty, .string ByteArray.empty, .string ByteArray.empty, .slice none 0 0, .slice none 0 0, .string ByteArray.empty, .slice none 0 0, .slice none 0 0] [.int .i64 1, .int .i64 2, .bool false, .int .i64 b, .string ByteArray.empty, .string ByteArray.empty, .string ByteArray.empty, .slice none 0 0, .slice none 0 0, .string ByteArray.empty, .slice none 0 0, .slice none 0 0]) 6) (exec_buildN _ _ _ rfl (by simp only [List.map_toArray, List.map_cons, List.map_nil, k1, k2]) (Tryd.rowN2 [.int .i64 1, .int .i64 2, .bool false, .int .i64 a, .string ByteArray.empty, .string ByteArray.empty, .string ByteArray.empty, .slice none 0 0, .slice none 0 0, .string ByteArray.empty, .slice none 0 0, .slice none 0 0] [.int .i64 1, .int .i64 2, .bool false, .int .i64 b, .string ByteArray.empty, .string ByteArray.empty, .string ByteArray.empty, .slice none 0 0, .slice none 0 0, .string ByteArray.empty, .slice none 0 0, .slice none 0 0] rfl rfl W5)) ((Ext.refl W5).alloc _) ⟨_, rfl, hx.size, heap_alloc_new _ _⟩ hK
    · exact wp_known (exec_move rfl (hold 10 (by kernel_rfl))) hK
    · exact wp_known (exec_binX rfl (hf 7 42 (by omega) (by kernel_rfl) (by kernel_rfl)) rfl (by kernel_rfl)) hK
    · exact wp_known (exec_binX rfl rfl (hf 8 43 (by omega) (by kernel_rfl) (by kernel_rfl)) (by kernel_rfl)) hK
    · obtain ⟨A, k1, h1, h2⟩ := (hf 6 41 (by omega) (by kernel_rfl) (by kernel_rfl))
      exact wp_leaves (Φ := (NumV w4 1 12 2 [.int .i64 1, .int .i64 2, .bool false, .int .i64 a, .string ByteArray.empty, .string ByteArray.empty, .string ByteArray.empty, .slice none 0 0, .slice none 0 0, .string ByteArray.empty, .slice none 0 0, .slice none 0 0] [.int .i64 1, .int .i64 2, .bool false, .int .i64 b, .string ByteArray.empty, .string ByteArray.empty, .string ByteArray.empty, .slice none 0 0, .slice none 0 0, .string ByteArray.empty, .slice none 0 0, .slice none 0 0]) 10) (exec_cut_hi rfl k1 (hf 9 44 (by omega) (by kernel_rfl) (by kernel_rfl)) (Tryd.cutN A 2 (by omega) W5)) (Ext.refl W5) ⟨A, rfl, h1, h2⟩ hK
    · have k1 : c.eval (.tmp 38) = .int .i64 12 := (hf 3 38 (by omega) (by kernel_rfl) (by kernel_rfl))
      obtain ⟨A, k2, h1, h2⟩ := (hf 10 45 (by omega) (by kernel_rfl) (by kernel_rfl))
      exact wp_leaves (Φ := (NumV w4 1 12 2 [.int .i64 1, .int .i64 2, .bool false, .int .i64 a, .string ByteArray.empty, .string ByteArray.empty, .string ByteArray.empty, .slice none 0 0, .slice none 0 0, .string ByteArray.empty, .slice none 0 0, .slice none 0 0] [.int .i64 1, .int .i64 2, .bool false, .int .i64 b, .string ByteArray.empty, .string ByteArray.empty, .string ByteArray.empty, .slice none 0 0, .slice none 0 0, .string ByteArray.empty, .slice none 0 0, .slice none 0 0]) 11) (exec_bldX rfl (by simp only [List.map_toArray, List.map_cons, List.map_nil, k1, k2]) (Tryd.bldN 12 _ _ _ W5)) (Ext.refl W5) ⟨A, rfl, h1, h2⟩ hK
    · exact wp_known (exec_bldX rfl (by simp only [List.map_toArray, List.map_nil]) (Tryd.bldQ W5)) hK
  · obtain rfl := Option.some.inj ho
    obtain ⟨A, k1, hr1, hr2⟩ := (hf 11 46 (by omega) (by kernel_rfl) (by kernel_rfl))
    have hk : expR.RowsAt (fun b => b < W5.heap.size) W5 [.lit (.whole a), .lit (.whole b)] (.slice (some ⟨A, 0, none⟩) 2 2) := kids_at (xs := [.int .i64 1, .int .i64 2, .bool false, .int .i64 a, .string ByteArray.empty, .string ByteArray.empty, .string ByteArray.empty, .slice none 0 0, .slice none 0 0, .string ByteArray.empty, .slice none 0 0, .slice none 0 0] ++ [.int .i64 1, .int .i64 2, .bool false, .int .i64 b, .string ByteArray.empty, .string ByteArray.empty, .string ByteArray.empty, .slice none 0 0, .slice none 0 0, .string ByteArray.empty, .slice none 0 0, .slice none 0 0]) hr2 (flat_cons (cs := [.int .i64 1, .int .i64 2, .bool false, .int .i64 a, .string ByteArray.empty, .string ByteArray.empty, .string ByteArray.empty, .slice none 0 0, .slice none 0 0, .string ByteArray.empty, .slice none 0 0, .slice none 0 0]) (lit_at (whole_at _ _ a (show I64 a by unfold I64; omega))) (flat_cons (cs := [.int .i64 1, .int .i64 2, .bool false, .int .i64 b, .string ByteArray.empty, .string ByteArray.empty, .string ByteArray.empty, .slice none 0 0, .slice none 0 0, .string ByteArray.empty, .slice none 0 0, .slice none 0 0]) (lit_at (whole_at _ _ b (show I64 b by unfold I64; omega))) flat_nil)) (by rw [LIM_eq]; simp) rfl (by simp) (by rw [maxLen_eq]; omega)
    refine ⟨_, _, exec_call Tryd.func7 rfl rfl rfl (map_three k1 (hf 12 47 (by omega) (by kernel_rfl) (by kernel_rfl)) rfl), (evalN_ok (.of 12 [.lit (.whole a), .lit (.whole b)]) (.whole (a - b), 0) W5 (opC 12 (.slice (some ⟨A, 0, none⟩) 2 2)) (by rw [two_nums _ _ _ _ _ (by omega), two_sub, fitI_in HR0.out]) (by rw [Exp.of_dep]; simp [Exp.deps, Exp.lit_dep]) (Exp.of_lits (by omega) (by intro x hx; simp at hx; rcases hx with rfl | rfl <;> exact whole_lits _)) (of_num (by simp [Num6]) (by intro x hx; simp at hx; rcases hx with rfl | rfl <;> exact lit_num _)) (of_at (by unfold I64; omega) hk) (HS4.out.ext hx)).mono fun e w' h => refAns_fresh h⟩
  · obtain ⟨p0, p1, p2, p3, p4, p5, p6, p7, p8, p9, s0, s1, s2, s3, s4, s5, s6, s7, s8, s9, rfl⟩ := list20r hlen
    have hp : s7 = .pointer (some ⟨g, 0, none⟩) := hp
    have he : s9 = .int .i64 0 := he
    obtain rfl : z = .whole (a - b) := hz rfl
    subst hp he
    obtain ⟨zA5, zc5, zB5, zd5, rfl⟩ := hat.opened
    simp only [List.take, List.drop, putAll, Act.put, List.setIfInBounds_toArray, List.set_cons_zero, List.set_cons_succ]
    have HA5 := Lib.hid ((hx.block _ (Blk_lt HA4.out)).trans HA4.out)
    have HB5 := Lib.hid ((hx.block _ (Blk_lt HB4.out)).trans HB4.out)
    have HX5 := Lib.hid (HX4.out.trans hx)
    have HQa5 := Lib.hid (show W5.heap[g]? = some (.cells #[.int .i64 2, .bool false, .int .i64 (a - b), .string ByteArray.empty, .string ByteArray.empty, .string ByteArray.empty, .slice zA5 0 zc5, .slice zB5 0 zd5] 28 (0, 0)) from hrow)
    clear hV hlen hx hp hg hrow hz hat he HA4 HB4 HX4 HS4
    have hr0 := HR0.out.1
    have hr1 := HR0.out.2
    have hmu : wrap64 (a * b) = a * b := by have := mul_fit hA.out hB.out; unfold wrap64; omega
    have HA6 := Lib.hid ((heap_alloc_old W5 (.cells #[.int .i64 (a + b), .int .i64 (a - b), .int .i64 (a * b), .int .i64 (-a)] 2) (Blk_lt HA5.out)).trans HA5.out)
    have HB6 := Lib.hid ((heap_alloc_old W5 (.cells #[.int .i64 (a + b), .int .i64 (a - b), .int .i64 (a * b), .int .i64 (-a)] 2) (Blk_lt HB5.out)).trans HB5.out)
    have HP6 := Lib.hid ((heap_alloc_old W5 (.cells #[.int .i64 (a + b), .int .i64 (a - b), .int .i64 (a * b), .int .i64 (-a)] 2) (Blk_lt HQa5.out)).trans HQa5.out)
    have HX6 := Lib.hid (HX5.out.alloc (.cells #[.int .i64 (a + b), .int .i64 (a - b), .int .i64 (a * b), .int .i64 (-a)] 2))
    clear HA5 HB5 HQa5 HX5
    go_wp2_with (first | (with_reducible refine at_load ?_; refine wpList_load_cells rfl 31 _ rfl w2.heap.size 0 rfl Tryd.aggEx Tryd.sizeEx (cs := [.int .i64 1, .int .i64 2, .bool false, .int .i64 a, .string ByteArray.empty, .string ByteArray.empty, .string ByteArray.empty, .slice none 0 0, .slice none 0 0, .string ByteArray.empty, .slice none 0 0, .slice none 0 0]) rfl (cells_of_row HA6.out) ?_) | (with_reducible refine at_load ?_; refine wpList_load_cells rfl 31 _ rfl w3.heap.size 0 rfl Tryd.aggEx Tryd.sizeEx (cs := [.int .i64 1, .int .i64 2, .bool false, .int .i64 b, .string ByteArray.empty, .string ByteArray.empty, .string ByteArray.empty, .slice none 0 0, .slice none 0 0, .string ByteArray.empty, .slice none 0 0, .slice none 0 0]) rfl (cells_of_row HB6.out) ?_))
    obtain ⟨w6, hW⟩ : ∃ W, W = W5.alloc (.cells #[.int .i64 (a + b), .int .i64 (a - b), .int .i64 (a * b), .int .i64 (-a)] 2) := ⟨_, rfl⟩
    rw [← hW] at HA6 HB6 HP6 HX6 ⊢
    have Hsz := Lib.hid (show w6.heap.size = W5.heap.size + 1 by rw [hW]; simp)
    clear hW
    have HS6 := Lib.hid (HS.out.ext HX6.out)
    obtain ⟨tl, htl⟩ : ∃ t, decide (a < b) = t := ⟨_, rfl⟩
    obtain ⟨tm, htm⟩ : ∃ t, decide (a ≤ b) = t := ⟨_, rfl⟩
    have hI := Lib.hid (show I64 a from by unfold I64; omega)
    have hJ := Lib.hid (show I64 b from by unfold I64; omega)
    clear hmu hr0 hr1
    obtain ⟨x7, hW⟩ : ∃ W, W = w6.alloc (.cells #[.int .i64 1, .int .i64 2, .bool false, .int .i64 a, .string ByteArray.empty, .string ByteArray.empty, .string ByteArray.empty, .slice none 0 0, .slice none 0 0, .string ByteArray.empty, .slice none 0 0, .slice none 0 0, .int .i64 1, .int .i64 2, .bool false, .int .i64 b, .string ByteArray.empty, .string ByteArray.empty, .string ByteArray.empty, .slice none 0 0, .slice none 0 0, .string ByteArray.empty, .slice none 0 0, .slice none 0 0] 31) := ⟨_, rfl⟩
    have HR := Lib.hid (show x7.heap[W5.heap.size + 1]? = some (.cells #[.int .i64 1, .int .i64 2, .bool false, .int .i64 a, .string ByteArray.empty, .string ByteArray.empty, .string ByteArray.empty, .slice none 0 0, .slice none 0 0, .string ByteArray.empty, .slice none 0 0, .slice none 0 0, .int .i64 1, .int .i64 2, .bool false, .int .i64 b, .string ByteArray.empty, .string ByteArray.empty, .string ByteArray.empty, .slice none 0 0, .slice none 0 0, .string ByteArray.empty, .slice none 0 0, .slice none 0 0] 31 (0, 0)) by rw [hW, ← Hsz.out]; exact heap_alloc_new _ _)
    have hxx : Ext w6 x7 := by rw [hW]; exact (Ext.refl _).alloc _
    rw [← hW]
    clear hW
    have hk : expR.RowsAt (fun b => b < x7.heap.size) x7 [.lit (.whole a), .lit (.whole b)] (.slice (some ⟨W5.heap.size + 1, 0, none⟩) 2 2) := kids_at (xs := [.int .i64 1, .int .i64 2, .bool false, .int .i64 a, .string ByteArray.empty, .string ByteArray.empty, .string ByteArray.empty, .slice none 0 0, .slice none 0 0, .string ByteArray.empty, .slice none 0 0, .slice none 0 0, .int .i64 1, .int .i64 2, .bool false, .int .i64 b, .string ByteArray.empty, .string ByteArray.empty, .string ByteArray.empty, .slice none 0 0, .slice none 0 0, .string ByteArray.empty, .slice none 0 0, .slice none 0 0]) HR.out (flat_cons (cs := [.int .i64 1, .int .i64 2, .bool false, .int .i64 a, .string ByteArray.empty, .string ByteArray.empty, .string ByteArray.empty, .slice none 0 0, .slice none 0 0, .string ByteArray.empty, .slice none 0 0, .slice none 0 0]) (lit_at (whole_at _ _ a (show I64 a by unfold I64; omega))) (flat_cons (cs := [.int .i64 1, .int .i64 2, .bool false, .int .i64 b, .string ByteArray.empty, .string ByteArray.empty, .string ByteArray.empty, .slice none 0 0, .slice none 0 0, .string ByteArray.empty, .slice none 0 0, .slice none 0 0]) (lit_at (whole_at _ _ b (show I64 b by unfold I64; omega))) flat_nil)) (by rw [LIM_eq]; simp) rfl (by simp) (by rw [maxLen_eq]; omega)
    have hc := evalN_ok (.of 9 [.lit (.whole a), .lit (.whole b)]) (.truth tl, 0) x7 (opC 9 (.slice (some ⟨W5.heap.size + 1, 0, none⟩) 2 2)) (by rw [two_nums _ _ _ _ _ (by omega), two_less, htl]; rfl) (by rw [Exp.of_dep]; simp [Exp.deps, Exp.lit_dep]) (Exp.of_lits (by omega) (by intro x hx; simp at hx; rcases hx with rfl | rfl <;> exact whole_lits _)) (of_num (by simp [Num6]) (by intro x hx; simp at hx; rcases hx with rfl | rfl <;> exact lit_num _)) (of_at (by unfold I64; omega) hk) (HS6.out.ext hxx)
    refine hc.mono ?_
    rintro e7 w7 ⟨cv, rfl, hv, hx7⟩
    obtain ⟨zA7, zc7, zB7, zd7, rfl⟩ := hv.opened
    have hxx := (hxx.trans hx7).alloc (.cells #[.int .i64 1, .bool tl, .int .i64 0, .string ByteArray.empty, .string ByteArray.empty, .string ByteArray.empty, .slice zA7 0 zc7, .slice zB7 0 zd7] 28)
    have HA7 := Lib.hid ((hxx.block _ (Blk_lt HA6.out)).trans HA6.out)
    have HB7 := Lib.hid ((hxx.block _ (Blk_lt HB6.out)).trans HB6.out)
    have HP7 := Lib.hid ((hxx.block _ (Blk_lt HP6.out)).trans HP6.out)
    have HX7 := Lib.hid (HX6.out.trans hxx)
    have HS7 := Lib.hid (HS6.out.ext hxx)
    have HL7 := Lib.hid (heap_alloc_new w7 (.cells #[.int .i64 1, .bool tl, .int .i64 0, .string ByteArray.empty, .string ByteArray.empty, .string ByteArray.empty, .slice zA7 0 zc7, .slice zB7 0 zd7] 28))
    clear hk hc hv hx7 HR hxx Hsz HX6 HS6 HA6 HB6 HP6
    go_wp2_with (first | (with_reducible refine at_load ?_; refine wpList_load_cells rfl 31 _ rfl w2.heap.size 0 rfl Tryd.aggEx Tryd.sizeEx (cs := [.int .i64 1, .int .i64 2, .bool false, .int .i64 a, .string ByteArray.empty, .string ByteArray.empty, .string ByteArray.empty, .slice none 0 0, .slice none 0 0, .string ByteArray.empty, .slice none 0 0, .slice none 0 0]) rfl (cells_of_row HA7.out) ?_) | (with_reducible refine at_load ?_; refine wpList_load_cells rfl 31 _ rfl w3.heap.size 0 rfl Tryd.aggEx Tryd.sizeEx (cs := [.int .i64 1, .int .i64 2, .bool false, .int .i64 b, .string ByteArray.empty, .string ByteArray.empty, .string ByteArray.empty, .slice none 0 0, .slice none 0 0, .string ByteArray.empty, .slice none 0 0, .slice none 0 0]) rfl (cells_of_row HB7.out) ?_))
    obtain ⟨w7', hW⟩ : ∃ W, W = w7.alloc (.cells #[.int .i64 1, .bool tl, .int .i64 0, .string ByteArray.empty, .string ByteArray.empty, .string ByteArray.empty, .slice zA7 0 zc7, .slice zB7 0 zd7] 28) := ⟨_, rfl⟩
    rw [← hW] at HA7 HB7 HP7 HL7 HX7 HS7 ⊢
    have Hsz := Lib.hid (show w7'.heap.size = w7.heap.size + 1 by rw [hW]; simp)
    clear hW
    obtain ⟨x8, hW⟩ : ∃ W, W = w7'.alloc (.cells #[.int .i64 1, .int .i64 2, .bool false, .int .i64 a, .string ByteArray.empty, .string ByteArray.empty, .string ByteArray.empty, .slice none 0 0, .slice none 0 0, .string ByteArray.empty, .slice none 0 0, .slice none 0 0, .int .i64 1, .int .i64 2, .bool false, .int .i64 b, .string ByteArray.empty, .string ByteArray.empty, .string ByteArray.empty, .slice none 0 0, .slice none 0 0, .string ByteArray.empty, .slice none 0 0, .slice none 0 0] 31) := ⟨_, rfl⟩
    have HR := Lib.hid (show x8.heap[w7.heap.size + 1]? = some (.cells #[.int .i64 1, .int .i64 2, .bool false, .int .i64 a, .string ByteArray.empty, .string ByteArray.empty, .string ByteArray.empty, .slice none 0 0, .slice none 0 0, .string ByteArray.empty, .slice none 0 0, .slice none 0 0, .int .i64 1, .int .i64 2, .bool false, .int .i64 b, .string ByteArray.empty, .string ByteArray.empty, .string ByteArray.empty, .slice none 0 0, .slice none 0 0, .string ByteArray.empty, .slice none 0 0, .slice none 0 0] 31 (0, 0)) by rw [hW, ← Hsz.out]; exact heap_alloc_new _ _)
    have hxx : Ext w7' x8 := by rw [hW]; exact (Ext.refl _).alloc _
    rw [← hW]
    clear hW
    have hk : expR.RowsAt (fun b => b < x8.heap.size) x8 [.lit (.whole a), .lit (.whole b)] (.slice (some ⟨w7.heap.size + 1, 0, none⟩) 2 2) := kids_at (xs := [.int .i64 1, .int .i64 2, .bool false, .int .i64 a, .string ByteArray.empty, .string ByteArray.empty, .string ByteArray.empty, .slice none 0 0, .slice none 0 0, .string ByteArray.empty, .slice none 0 0, .slice none 0 0, .int .i64 1, .int .i64 2, .bool false, .int .i64 b, .string ByteArray.empty, .string ByteArray.empty, .string ByteArray.empty, .slice none 0 0, .slice none 0 0, .string ByteArray.empty, .slice none 0 0, .slice none 0 0]) HR.out (flat_cons (cs := [.int .i64 1, .int .i64 2, .bool false, .int .i64 a, .string ByteArray.empty, .string ByteArray.empty, .string ByteArray.empty, .slice none 0 0, .slice none 0 0, .string ByteArray.empty, .slice none 0 0, .slice none 0 0]) (lit_at (whole_at _ _ a (show I64 a by unfold I64; omega))) (flat_cons (cs := [.int .i64 1, .int .i64 2, .bool false, .int .i64 b, .string ByteArray.empty, .string ByteArray.empty, .string ByteArray.empty, .slice none 0 0, .slice none 0 0, .string ByteArray.empty, .slice none 0 0, .slice none 0 0]) (lit_at (whole_at _ _ b (show I64 b by unfold I64; omega))) flat_nil)) (by rw [LIM_eq]; simp) rfl (by simp) (by rw [maxLen_eq]; omega)
    have hc := evalN_ok (.of 10 [.lit (.whole a), .lit (.whole b)]) (.truth tm, 0) x8 (opC 10 (.slice (some ⟨w7.heap.size + 1, 0, none⟩) 2 2)) (by rw [two_nums _ _ _ _ _ (by omega), two_le, htm]; rfl) (by rw [Exp.of_dep]; simp [Exp.deps, Exp.lit_dep]) (Exp.of_lits (by omega) (by intro x hx; simp at hx; rcases hx with rfl | rfl <;> exact whole_lits _)) (of_num (by simp [Num6]) (by intro x hx; simp at hx; rcases hx with rfl | rfl <;> exact lit_num _)) (of_at (by unfold I64; omega) hk) (HS7.out.ext hxx)
    refine hc.mono ?_
    rintro e8 w8 ⟨cv, rfl, hv, hx8⟩
    obtain ⟨zA8, zc8, zB8, zd8, rfl⟩ := hv.opened
    have hxx := (hxx.trans hx8).alloc (.cells #[.int .i64 1, .bool tm, .int .i64 0, .string ByteArray.empty, .string ByteArray.empty, .string ByteArray.empty, .slice zA8 0 zc8, .slice zB8 0 zd8] 28)
    have HA8 := Lib.hid ((hxx.block _ (Blk_lt HA7.out)).trans HA7.out)
    have HB8 := Lib.hid ((hxx.block _ (Blk_lt HB7.out)).trans HB7.out)
    have HP8 := Lib.hid ((hxx.block _ (Blk_lt HP7.out)).trans HP7.out)
    have HL8 := Lib.hid ((hxx.block _ (Blk_lt HL7.out)).trans HL7.out)
    have HX8 := Lib.hid (HX7.out.trans hxx)
    have HS8 := Lib.hid (HS7.out.ext hxx)
    have HM8 := Lib.hid (heap_alloc_new w8 (.cells #[.int .i64 1, .bool tm, .int .i64 0, .string ByteArray.empty, .string ByteArray.empty, .string ByteArray.empty, .slice zA8 0 zc8, .slice zB8 0 zd8] 28))
    clear hk hc hv hx8 HR hxx Hsz HX7 HS7 HA7 HB7 HP7 HL7
    go_wp2_with fail
    refine (lit_ok 2 false 9223372036854775807 ByteArray.empty ByteArray.empty ByteArray.empty none 0 0 none 0 0 _).mono ?_
    rintro e10 w10 ⟨rfl, hx10⟩
    have hxx := hx10.alloc (.cells #[.int .i64 1, .int .i64 2, .bool false, .int .i64 9223372036854775807, .string ByteArray.empty, .string ByteArray.empty, .string ByteArray.empty, .slice none 0 0, .slice none 0 0, .string ByteArray.empty, .slice none 0 0, .slice none 0 0] 31)
    have HP9 := Lib.hid ((hxx.block _ (Blk_lt HP8.out)).trans HP8.out)
    have HL9 := Lib.hid ((hxx.block _ (Blk_lt HL8.out)).trans HL8.out)
    have HM9 := Lib.hid ((hxx.block _ (Blk_lt HM8.out)).trans HM8.out)
    have HX9 := Lib.hid (HX8.out.trans hxx)
    have HS9 := Lib.hid (HS8.out.ext hxx)
    have HG9 := Lib.hid (heap_alloc_new w10 (.cells #[.int .i64 1, .int .i64 2, .bool false, .int .i64 9223372036854775807, .string ByteArray.empty, .string ByteArray.empty, .string ByteArray.empty, .slice none 0 0, .slice none 0 0, .string ByteArray.empty, .slice none 0 0, .slice none 0 0] 31))
    clear hx10 hxx HP8 HL8 HM8 HX8 HS8 HA8 HB8
    go_wp2_with fail
    obtain ⟨w11, hW⟩ : ∃ W, W = w10.alloc (.cells #[.int .i64 1, .int .i64 2, .bool false, .int .i64 9223372036854775807, .string ByteArray.empty, .string ByteArray.empty, .string ByteArray.empty, .slice none 0 0, .slice none 0 0, .string ByteArray.empty, .slice none 0 0, .slice none 0 0] 31) := ⟨_, rfl⟩
    rw [← hW] at HP9 HL9 HM9 HX9 HS9 HG9 ⊢
    clear hW
    refine region_askV (fun b => b < w11.heap.size) w11.heap.size 6 13 100 93 101 102 19 rfl (SumV w11 [.int .i64 1, .int .i64 2, .bool false, .int .i64 9223372036854775807, .string ByteArray.empty, .string ByteArray.empty, .string ByteArray.empty, .slice none 0 0, .slice none 0 0, .string ByteArray.empty, .slice none 0 0, .slice none 0 0] [.int .i64 1, .int .i64 2, .bool false, .int .i64 1, .string ByteArray.empty, .string ByteArray.empty, .string ByteArray.empty, .slice none 0 0, .slice none 0 0, .string ByteArray.empty, .slice none 0 0, .slice none 0 0]) (.zero, 14) (by kernel_rfl) (by kernel_rfl) (by kernel_rfl) (fun _ h => h) (Nat.le_refl _) (fun i v W W' _ h _ k => h.ext i v W W' k) (fun i v W g cur row _ h _ _ hc => h.row i v W hc)
      ⟨_, _, _, _, _, _, _, rfl, rfl, rfl, rfl, rfl, rfl, rfl, rfl, rfl, rfl, rfl, rfl, rfl⟩ ⟨by kernel_rfl, by kernel_rfl, by kernel_rfl, by kernel_rfl, by kernel_rfl⟩ ⟨by kernel_rfl, by kernel_rfl, by kernel_rfl, by kernel_rfl, by kernel_rfl, by kernel_rfl⟩ (fun i o hi ho W5 c hx hold hf Q K hK => ?_) (fun o ho W5 c hx hold hf => ?_) (fun xs W12 z cv g2 hlen hx hV hp hg hrow hz hat he => ?_)
    · rcases (by omega : i = 0 ∨ i = 1 ∨ i = 2 ∨ i = 3 ∨ i = 4 ∨ i = 5) with rfl | rfl | rfl | rfl | rfl | rfl <;> obtain rfl := Option.some.inj ho
      · exact wp_known (exec_load_cells 31 _ rfl w10.heap.size 0 (hold 18 (by kernel_rfl)) Tryd.aggEx Tryd.sizeEx (cs := [.int .i64 1, .int .i64 2, .bool false, .int .i64 9223372036854775807, .string ByteArray.empty, .string ByteArray.empty, .string ByteArray.empty, .slice none 0 0, .slice none 0 0, .string ByteArray.empty, .slice none 0 0, .slice none 0 0]) rfl (cells_of_row ((hx.block _ (Blk_lt HG9.out)).trans HG9.out))) hK
      · exact wp_known (exec_bldX rfl (by simp only [List.map_toArray, List.map_cons, List.map_nil]; rfl) (Tryd.bldV 1 W5)) hK
      · refine wp_enters (Φ := fun v _ => v = .agg ([.int .i64 1, .int .i64 2, .bool false, .int .i64 1, .string ByteArray.empty, .string ByteArray.empty, .string ByteArray.empty, .slice none 0 0, .slice none 0 0, .string ByteArray.empty, .slice none 0 0, .slice none 0 0] : List Value).toArray) (exec_call Tryd.func6 rfl rfl rfl (map_one (hf 1 95 (by omega) (by kernel_rfl) (by kernel_rfl)))) ((lit_ok 2 false 1 ByteArray.empty ByteArray.empty ByteArray.empty none 0 0 none 0 0 W5).mono fun e W3 ⟨he, hx3⟩ => ⟨_, he, hx3, rfl⟩) hK
      · have k1 : c.eval (.tmp 94) = .agg ([.int .i64 1, .int .i64 2, .bool false, .int .i64 9223372036854775807, .string ByteArray.empty, .string ByteArray.empty, .string ByteArray.empty, .slice none 0 0, .slice none 0 0, .string ByteArray.empty, .slice none 0 0, .slice none 0 0] : List Value).toArray := (hf 0 94 (by omega) (by kernel_rfl) (by kernel_rfl))
        have k2 : c.eval (.tmp 96) = .agg ([.int .i64 1, .int .i64 2, .bool false, .int .i64 1, .string ByteArray.empty, .string ByteArray.empty, .string ByteArray.empty, .slice none 0 0, .slice none 0 0, .string ByteArray.empty, .slice none 0 0, .slice none 0 0] : List Value).toArray := (hf 2 96 (by omega) (by kernel_rfl) (by kernel_rfl))
        exact wp_leaves (Φ := SumV w11 [.int .i64 1, .int .i64 2, .bool false, .int .i64 9223372036854775807, .string ByteArray.empty, .string ByteArray.empty, .string ByteArray.empty, .slice none 0 0, .slice none 0 0, .string ByteArray.empty, .slice none 0 0, .slice none 0 0] [.int .i64 1, .int .i64 2, .bool false, .int .i64 1, .string ByteArray.empty, .string ByteArray.empty, .string ByteArray.empty, .slice none 0 0, .slice none 0 0, .string ByteArray.empty, .slice none 0 0, .slice none 0 0] 3) (exec_buildN _ _ _ rfl (by simp only [List.map_toArray, List.map_cons, List.map_nil, k1, k2]) (Tryd.rowN2 [.int .i64 1, .int .i64 2, .bool false, .int .i64 9223372036854775807, .string ByteArray.empty, .string ByteArray.empty, .string ByteArray.empty, .slice none 0 0, .slice none 0 0, .string ByteArray.empty, .slice none 0 0, .slice none 0 0] [.int .i64 1, .int .i64 2, .bool false, .int .i64 1, .string ByteArray.empty, .string ByteArray.empty, .string ByteArray.empty, .slice none 0 0, .slice none 0 0, .string ByteArray.empty, .slice none 0 0, .slice none 0 0] rfl rfl W5)) ((Ext.refl W5).alloc _) ⟨_, rfl, hx.size, heap_alloc_new _ _⟩ hK
      · obtain ⟨A, k2, h1, h2⟩ := (hf 3 97 (by omega) (by kernel_rfl) (by kernel_rfl))
        exact wp_leaves (Φ := SumV w11 [.int .i64 1, .int .i64 2, .bool false, .int .i64 9223372036854775807, .string ByteArray.empty, .string ByteArray.empty, .string ByteArray.empty, .slice none 0 0, .slice none 0 0, .string ByteArray.empty, .slice none 0 0, .slice none 0 0] [.int .i64 1, .int .i64 2, .bool false, .int .i64 1, .string ByteArray.empty, .string ByteArray.empty, .string ByteArray.empty, .slice none 0 0, .slice none 0 0, .string ByteArray.empty, .slice none 0 0, .slice none 0 0] 4) (exec_bldX rfl (by simp only [List.map_toArray, List.map_cons, List.map_nil, k2]; rfl) (Tryd.bldN 11 _ _ _ W5)) (Ext.refl W5) ⟨A, rfl, h1, h2⟩ hK
      · exact wp_known (exec_bldX rfl (by simp only [List.map_toArray, List.map_nil]) (Tryd.bldQ W5)) hK
    · obtain rfl := Option.some.inj ho
      obtain ⟨A, k1, hr1, hr2⟩ := (hf 4 98 (by omega) (by kernel_rfl) (by kernel_rfl))
      have hk : expR.RowsAt (fun b => b < W5.heap.size) W5 [.lit (.whole 9223372036854775807), .lit (.whole 1)] (.slice (some ⟨A, 0, none⟩) 2 2) := kids_at (xs := [.int .i64 1, .int .i64 2, .bool false, .int .i64 9223372036854775807, .string ByteArray.empty, .string ByteArray.empty, .string ByteArray.empty, .slice none 0 0, .slice none 0 0, .string ByteArray.empty, .slice none 0 0, .slice none 0 0] ++ [.int .i64 1, .int .i64 2, .bool false, .int .i64 1, .string ByteArray.empty, .string ByteArray.empty, .string ByteArray.empty, .slice none 0 0, .slice none 0 0, .string ByteArray.empty, .slice none 0 0, .slice none 0 0]) hr2 (flat_cons (cs := [.int .i64 1, .int .i64 2, .bool false, .int .i64 9223372036854775807, .string ByteArray.empty, .string ByteArray.empty, .string ByteArray.empty, .slice none 0 0, .slice none 0 0, .string ByteArray.empty, .slice none 0 0, .slice none 0 0]) (lit_at (whole_at _ _ 9223372036854775807 (by unfold I64; omega))) (flat_cons (cs := [.int .i64 1, .int .i64 2, .bool false, .int .i64 1, .string ByteArray.empty, .string ByteArray.empty, .string ByteArray.empty, .slice none 0 0, .slice none 0 0, .string ByteArray.empty, .slice none 0 0, .slice none 0 0]) (lit_at (whole_at _ _ 1 (by unfold I64; omega))) flat_nil)) (by rw [LIM_eq]; simp) rfl (by simp) (by rw [maxLen_eq]; omega)
      refine ⟨_, _, exec_call Tryd.func7 rfl rfl rfl (map_three k1 (hf 5 99 (by omega) (by kernel_rfl) (by kernel_rfl)) rfl), (evalN_ok (.of 11 [.lit (.whole 9223372036854775807), .lit (.whole 1)]) (.zero, 14) W5 (opC 11 (.slice (some ⟨A, 0, none⟩) 2 2)) (by rw [two_nums _ _ _ _ _ (by omega), two_add, fitI_out (by omega)]; rfl) (by rw [Exp.of_dep]; simp [Exp.deps, Exp.lit_dep]) (Exp.of_lits (by omega) (by intro x hx; simp at hx; rcases hx with rfl | rfl <;> exact whole_lits _)) (of_num (by simp [Num6]) (by intro x hx; simp at hx; rcases hx with rfl | rfl <;> exact lit_num _)) (of_at (by unfold I64; omega) hk) (HS9.out.ext hx)).mono fun e w' h => refAns_fresh h⟩
    · obtain ⟨u0, u1, u2, u3, u4, u5, u6, u7, u8, u9, v0, v1, v2, rfl⟩ := list13n hlen
      have hp : v0 = .pointer (some ⟨g2, 0, none⟩) := hp
      have he : v2 = .int .i64 14 := he
      subst hp he
      simp only [List.take, List.drop, putAll, Act.put, List.setIfInBounds_toArray, List.set_cons_zero, List.set_cons_succ]
      have HPe := Lib.hid ((hx.block _ (Blk_lt HP9.out)).trans HP9.out)
      have HLe := Lib.hid ((hx.block _ (Blk_lt HL9.out)).trans HL9.out)
      have HMe := Lib.hid ((hx.block _ (Blk_lt HM9.out)).trans HM9.out)
      have HXe := Lib.hid (HX9.out.trans hx)
      have f0 : W12.cell? ⟨g, 0, none⟩ = some (.int .i64 2) := cell_of_row _ _ 0 _ _ _ HPe.out
      have f1 : W12.cell? ⟨g, 2, none⟩ = some (.int .i64 (a - b)) := cell_of_row _ _ 2 _ _ _ HPe.out
      have f2 : W12.cell? ⟨w7.heap.size, 1, none⟩ = some (.bool tl) := cell_of_row _ _ 1 _ _ _ HLe.out
      have f3 : W12.cell? ⟨w8.heap.size, 1, none⟩ = some (.bool tm) := cell_of_row _ _ 1 _ _ _ HMe.out
      clear hV hlen hx hp hg hrow hz hat he HP9 HL9 HM9 HX9 HS9 HG9
      have q1 : (tl == tl) = true := by simp
      have q2 : (tm == tm) = true := by simp
      go_wp2_with fail
      go_ret
      exact ⟨rfl, HXe.out⟩
set_option maxRecDepth 100000 in
set_option maxHeartbeats 4000000 in
theorem evalNumbers_2 (a b op : Int) (ha : -2147483648 ≤ a ∧ a ≤ 2147483647) (hb : -2147483648 ≤ b ∧ b ≤ 2147483647) (hk : op % 4 = 2) (W : World) (hs : Sums W) :
    Calls Tryd.prog 3 #[.int .i32 a, .int .i32 b, .int .i64 op] W fun e W' => e = .returned (.bool true) ∧ Ext W W' := by
  have hA := Lib.hid ha
  have hB := Lib.hid hb
  have HS := Lib.hid hs
  have hop : bits .and .i64 op 3 = 2 := by rw [i64_and3n]; exact hk
  obtain ⟨a0, a1⟩ := ha
  obtain ⟨b0, b1⟩ := hb
  clear hk hs
  go_enter Tryd.func3, Tryd.ntmps3
  go_wp2_with fail
  refine (awake14_ok W HS.out).mono ?_
  rintro e1 w1 ⟨rfl, hx1⟩
  have HX1 := Lib.hid hx1
  clear hx1
  go_wp2_with fail
  refine (lit_ok 2 false a ByteArray.empty ByteArray.empty ByteArray.empty none 0 0 none 0 0 _).mono ?_
  rintro e2 w2 ⟨rfl, hx2⟩
  have HX2 := Lib.hid (HX1.out.trans hx2)
  clear hx2 HX1
  go_wp2_with fail
  refine (lit_ok 2 false b ByteArray.empty ByteArray.empty ByteArray.empty none 0 0 none 0 0 _).mono ?_
  rintro e3 w3 ⟨rfl, hx3⟩
  have HA3 := Lib.hid ((hx3.block _ (by simp)).trans (heap_alloc_new w2 (.cells #[.int .i64 1, .int .i64 2, .bool false, .int .i64 a, .string ByteArray.empty, .string ByteArray.empty, .string ByteArray.empty, .slice none 0 0, .slice none 0 0, .string ByteArray.empty, .slice none 0 0, .slice none 0 0] 31)))
  have HX3 := Lib.hid ((HX2.out.alloc (.cells #[.int .i64 1, .int .i64 2, .bool false, .int .i64 a, .string ByteArray.empty, .string ByteArray.empty, .string ByteArray.empty, .slice none 0 0, .slice none 0 0, .string ByteArray.empty, .slice none 0 0, .slice none 0 0] 31)).trans hx3)
  clear hx3 HX2
  go_wp2_with fail
  have HA4 := Lib.hid ((heap_alloc_old w3 (.cells #[.int .i64 1, .int .i64 2, .bool false, .int .i64 b, .string ByteArray.empty, .string ByteArray.empty, .string ByteArray.empty, .slice none 0 0, .slice none 0 0, .string ByteArray.empty, .slice none 0 0, .slice none 0 0] 31) (Blk_lt HA3.out)).trans HA3.out)
  have HB4 := Lib.hid (heap_alloc_new w3 (.cells #[.int .i64 1, .int .i64 2, .bool false, .int .i64 b, .string ByteArray.empty, .string ByteArray.empty, .string ByteArray.empty, .slice none 0 0, .slice none 0 0, .string ByteArray.empty, .slice none 0 0, .slice none 0 0] 31))
  have HX4 := Lib.hid (HX3.out.alloc (.cells #[.int .i64 1, .int .i64 2, .bool false, .int .i64 b, .string ByteArray.empty, .string ByteArray.empty, .string ByteArray.empty, .slice none 0 0, .slice none 0 0, .string ByteArray.empty, .slice none 0 0, .slice none 0 0] 31))
  obtain ⟨w4, hW⟩ : ∃ W, W = w3.alloc (.cells #[.int .i64 1, .int .i64 2, .bool false, .int .i64 b, .string ByteArray.empty, .string ByteArray.empty, .string ByteArray.empty, .slice none 0 0, .slice none 0 0, .string ByteArray.empty, .slice none 0 0, .slice none 0 0] 31) := ⟨_, rfl⟩
  rw [← hW] at HA4 HB4 HX4 ⊢
  clear hW
  have HS4 := Lib.hid (HS.out.ext HX4.out)
  have HR0 := Lib.hid (show -9223372036854775808 ≤ a * b ∧ a * b ≤ 9223372036854775807 from by
        have h1 : -4611686018427387904 ≤ a * b ∧ a * b ≤ 4611686018427387904 := mul_fit hA.out hB.out
        omega)
  clear HA3 HX3 hop
  refine region_askV (fun b => b < w4.heap.size) w4.heap.size 13 20 48 34 49 50 11 rfl (NumV w4 2 13 2 [.int .i64 1, .int .i64 2, .bool false, .int .i64 a, .string ByteArray.empty, .string ByteArray.empty, .string ByteArray.empty, .slice none 0 0, .slice none 0 0, .string ByteArray.empty, .slice none 0 0, .slice none 0 0] [.int .i64 1, .int .i64 2, .bool false, .int .i64 b, .string ByteArray.empty, .string ByteArray.empty, .string ByteArray.empty, .slice none 0 0, .slice none 0 0, .string ByteArray.empty, .slice none 0 0, .slice none 0 0]) (.whole (a * b), 0) (by kernel_rfl) (by kernel_rfl) (by kernel_rfl) (fun _ h => h) (Nat.le_refl _) (fun i v W W' _ h _ k => h.ext i v W W' k) (fun i v W g cur row _ h _ _ hc => h.row i v W hc)
    ⟨_, _, _, _, _, _, _, rfl, rfl, rfl, rfl, rfl, rfl, rfl, rfl, rfl, rfl, rfl, rfl, rfl⟩ ⟨by kernel_rfl, by kernel_rfl, by kernel_rfl, by kernel_rfl, by kernel_rfl⟩ ⟨by kernel_rfl, by kernel_rfl, by kernel_rfl, by kernel_rfl, by kernel_rfl, by kernel_rfl⟩ (fun i o hi ho W5 c hx hold hf Q K hK => ?_) (fun o ho W5 c hx hold hf => ?_) (fun xs W5 z cv g hlen hx hV hp hg hrow hz hat he => ?_)
  · rcases (by omega : i = 0 ∨ i = 1 ∨ i = 2 ∨ i = 3 ∨ i = 4 ∨ i = 5 ∨ i = 6 ∨ i = 7 ∨ i = 8 ∨ i = 9 ∨ i = 10 ∨ i = 11 ∨ i = 12) with rfl | rfl | rfl | rfl | rfl | rfl | rfl | rfl | rfl | rfl | rfl | rfl | rfl <;> obtain rfl := Option.some.inj ho
    · exact wp_leaves (Φ := (NumV w4 2 13 2 [.int .i64 1, .int .i64 2, .bool false, .int .i64 a, .string ByteArray.empty, .string ByteArray.empty, .string ByteArray.empty, .slice none 0 0, .slice none 0 0, .string ByteArray.empty, .slice none 0 0, .slice none 0 0] [.int .i64 1, .int .i64 2, .bool false, .int .i64 b, .string ByteArray.empty, .string ByteArray.empty, .string ByteArray.empty, .slice none 0 0, .slice none 0 0, .string ByteArray.empty, .slice none 0 0, .slice none 0 0]) 0) (exec_buildN _ _ _ rfl (by simp only [List.map_toArray, List.map_cons, List.map_nil]; rfl) (Tryd.buildN4 W5)) ((Ext.refl W5).alloc _) ⟨_, rfl, heap_alloc_new _ _⟩ hK
    · exact wp_known (exec_move rfl (hold 10 (by kernel_rfl))) hK
    · obtain ⟨A, k1, h1⟩ := (hf 0 35 (by omega) (by kernel_rfl) (by kernel_rfl))
      exact wp_leaves (Φ := (NumV w4 2 13 2 [.int .i64 1, .int .i64 2, .bool false, .int .i64 a, .string ByteArray.empty, .string ByteArray.empty, .string ByteArray.empty, .slice none 0 0, .slice none 0 0, .string ByteArray.empty, .slice none 0 0, .slice none 0 0] [.int .i64 1, .int .i64 2, .bool false, .int .i64 b, .string ByteArray.empty, .string ByteArray.empty, .string ByteArray.empty, .slice none 0 0, .slice none 0 0, .string ByteArray.empty, .slice none 0 0, .slice none 0 0]) 2) (exec_index rfl k1 (hf 1 36 (by omega) (by kernel_rfl) (by kernel_rfl)) Tryd.undIs Tryd.sizIs (by omega)) (Ext.refl W5) ⟨A, rfl, h1⟩ hK
    · obtain ⟨A, k1, h1⟩ := (hf 2 37 (by omega) (by kernel_rfl) (by kernel_rfl))
      exact wp_known (exec_load_one 3 _ rfl A (0 + 2 * 1) k1 Tryd.aggIs (cell_of_row _ _ 2 _ _ _ h1)) hK
    · exact wp_known (exec_load_cells 31 _ rfl w2.heap.size 0 (hold 8 (by kernel_rfl)) Tryd.aggEx Tryd.sizeEx (cs := [.int .i64 1, .int .i64 2, .bool false, .int .i64 a, .string ByteArray.empty, .string ByteArray.empty, .string ByteArray.empty, .slice none 0 0, .slice none 0 0, .string ByteArray.empty, .slice none 0 0, .slice none 0 0]) rfl (cells_of_row ((hx.block _ (Blk_lt HA4.out)).trans HA4.out))) hK
    · exact wp_known (exec_load_cells 31 _ rfl w3.heap.size 0 (hold 9 (by kernel_rfl)) Tryd.aggEx Tryd.sizeEx (cs := [.int .i64 1, .int .i64 2, .bool false, .int .i64 b, .string ByteArray.empty, .string ByteArray.empty, .string ByteArray.empty, .slice none 0 0, .slice none 0 0, .string ByteArray.empty, .slice none 0 0, .slice none 0 0]) rfl (cells_of_row ((hx.block _ (Blk_lt HB4.out)).trans HB4.out))) hK
    · have k1 : c.eval (.tmp 39) = .agg ([.int .i64 1, .int .i64 2, .bool false, .int .i64 a, .string ByteArray.empty, .string ByteArray.empty, .string ByteArray.empty, .slice none 0 0, .slice none 0 0, .string ByteArray.empty, .slice none 0 0, .slice none 0 0] : List Value).toArray := (hf 4 39 (by omega) (by kernel_rfl) (by kernel_rfl))
      have k2 : c.eval (.tmp 40) = .agg ([.int .i64 1, .int .i64 2, .bool false, .int .i64 b, .string ByteArray.empty, .string ByteArray.empty, .string ByteArray.empty, .slice none 0 0, .slice none 0 0, .string ByteArray.empty, .slice none 0 0, .slice none 0 0] : List Value).toArray := (hf 5 40 (by omega) (by kernel_rfl) (by kernel_rfl))
      exact wp_leaves (Φ := (NumV w4 2 13 2 [.int .i64 1, .int .i64 2, .bool false, .int .i64 a, .string ByteArray.empty, .string ByteArray.empty, .string ByteArray.empty, .slice none 0 0, .slice none 0 0, .string ByteArray.empty, .slice none 0 0, .slice none 0 0] [.int .i64 1, .int .i64 2, .bool false, .int .i64 b, .string ByteArray.empty, .string ByteArray.empty, .string ByteArray.empty, .slice none 0 0, .slice none 0 0, .string ByteArray.empty, .slice none 0 0, .slice none 0 0]) 6) (exec_buildN _ _ _ rfl (by simp only [List.map_toArray, List.map_cons, List.map_nil, k1, k2]) (Tryd.rowN2 [.int .i64 1, .int .i64 2, .bool false, .int .i64 a, .string ByteArray.empty, .string ByteArray.empty, .string ByteArray.empty, .slice none 0 0, .slice none 0 0, .string ByteArray.empty, .slice none 0 0, .slice none 0 0] [.int .i64 1, .int .i64 2, .bool false, .int .i64 b, .string ByteArray.empty, .string ByteArray.empty, .string ByteArray.empty, .slice none 0 0, .slice none 0 0, .string ByteArray.empty, .slice none 0 0, .slice none 0 0] rfl rfl W5)) ((Ext.refl W5).alloc _) ⟨_, rfl, hx.size, heap_alloc_new _ _⟩ hK
    · exact wp_known (exec_move rfl (hold 10 (by kernel_rfl))) hK
    · exact wp_known (exec_binX rfl (hf 7 42 (by omega) (by kernel_rfl) (by kernel_rfl)) rfl (by kernel_rfl)) hK
    · exact wp_known (exec_binX rfl rfl (hf 8 43 (by omega) (by kernel_rfl) (by kernel_rfl)) (by kernel_rfl)) hK
    · obtain ⟨A, k1, h1, h2⟩ := (hf 6 41 (by omega) (by kernel_rfl) (by kernel_rfl))
      exact wp_leaves (Φ := (NumV w4 2 13 2 [.int .i64 1, .int .i64 2, .bool false, .int .i64 a, .string ByteArray.empty, .string ByteArray.empty, .string ByteArray.empty, .slice none 0 0, .slice none 0 0, .string ByteArray.empty, .slice none 0 0, .slice none 0 0] [.int .i64 1, .int .i64 2, .bool false, .int .i64 b, .string ByteArray.empty, .string ByteArray.empty, .string ByteArray.empty, .slice none 0 0, .slice none 0 0, .string ByteArray.empty, .slice none 0 0, .slice none 0 0]) 10) (exec_cut_hi rfl k1 (hf 9 44 (by omega) (by kernel_rfl) (by kernel_rfl)) (Tryd.cutN A 2 (by omega) W5)) (Ext.refl W5) ⟨A, rfl, h1, h2⟩ hK
    · have k1 : c.eval (.tmp 38) = .int .i64 13 := (hf 3 38 (by omega) (by kernel_rfl) (by kernel_rfl))
      obtain ⟨A, k2, h1, h2⟩ := (hf 10 45 (by omega) (by kernel_rfl) (by kernel_rfl))
      exact wp_leaves (Φ := (NumV w4 2 13 2 [.int .i64 1, .int .i64 2, .bool false, .int .i64 a, .string ByteArray.empty, .string ByteArray.empty, .string ByteArray.empty, .slice none 0 0, .slice none 0 0, .string ByteArray.empty, .slice none 0 0, .slice none 0 0] [.int .i64 1, .int .i64 2, .bool false, .int .i64 b, .string ByteArray.empty, .string ByteArray.empty, .string ByteArray.empty, .slice none 0 0, .slice none 0 0, .string ByteArray.empty, .slice none 0 0, .slice none 0 0]) 11) (exec_bldX rfl (by simp only [List.map_toArray, List.map_cons, List.map_nil, k1, k2]) (Tryd.bldN 13 _ _ _ W5)) (Ext.refl W5) ⟨A, rfl, h1, h2⟩ hK
    · exact wp_known (exec_bldX rfl (by simp only [List.map_toArray, List.map_nil]) (Tryd.bldQ W5)) hK
  · obtain rfl := Option.some.inj ho
    obtain ⟨A, k1, hr1, hr2⟩ := (hf 11 46 (by omega) (by kernel_rfl) (by kernel_rfl))
    have hk : expR.RowsAt (fun b => b < W5.heap.size) W5 [.lit (.whole a), .lit (.whole b)] (.slice (some ⟨A, 0, none⟩) 2 2) := kids_at (xs := [.int .i64 1, .int .i64 2, .bool false, .int .i64 a, .string ByteArray.empty, .string ByteArray.empty, .string ByteArray.empty, .slice none 0 0, .slice none 0 0, .string ByteArray.empty, .slice none 0 0, .slice none 0 0] ++ [.int .i64 1, .int .i64 2, .bool false, .int .i64 b, .string ByteArray.empty, .string ByteArray.empty, .string ByteArray.empty, .slice none 0 0, .slice none 0 0, .string ByteArray.empty, .slice none 0 0, .slice none 0 0]) hr2 (flat_cons (cs := [.int .i64 1, .int .i64 2, .bool false, .int .i64 a, .string ByteArray.empty, .string ByteArray.empty, .string ByteArray.empty, .slice none 0 0, .slice none 0 0, .string ByteArray.empty, .slice none 0 0, .slice none 0 0]) (lit_at (whole_at _ _ a (show I64 a by unfold I64; omega))) (flat_cons (cs := [.int .i64 1, .int .i64 2, .bool false, .int .i64 b, .string ByteArray.empty, .string ByteArray.empty, .string ByteArray.empty, .slice none 0 0, .slice none 0 0, .string ByteArray.empty, .slice none 0 0, .slice none 0 0]) (lit_at (whole_at _ _ b (show I64 b by unfold I64; omega))) flat_nil)) (by rw [LIM_eq]; simp) rfl (by simp) (by rw [maxLen_eq]; omega)
    refine ⟨_, _, exec_call Tryd.func7 rfl rfl rfl (map_three k1 (hf 12 47 (by omega) (by kernel_rfl) (by kernel_rfl)) rfl), (evalN_ok (.of 13 [.lit (.whole a), .lit (.whole b)]) (.whole (a * b), 0) W5 (opC 13 (.slice (some ⟨A, 0, none⟩) 2 2)) (by rw [two_nums _ _ _ _ _ (by omega), two_mul, fitI_in HR0.out]) (by rw [Exp.of_dep]; simp [Exp.deps, Exp.lit_dep]) (Exp.of_lits (by omega) (by intro x hx; simp at hx; rcases hx with rfl | rfl <;> exact whole_lits _)) (of_num (by simp [Num6]) (by intro x hx; simp at hx; rcases hx with rfl | rfl <;> exact lit_num _)) (of_at (by unfold I64; omega) hk) (HS4.out.ext hx)).mono fun e w' h => refAns_fresh h⟩
  · obtain ⟨p0, p1, p2, p3, p4, p5, p6, p7, p8, p9, s0, s1, s2, s3, s4, s5, s6, s7, s8, s9, rfl⟩ := list20r hlen
    have hp : s7 = .pointer (some ⟨g, 0, none⟩) := hp
    have he : s9 = .int .i64 0 := he
    obtain rfl : z = .whole (a * b) := hz rfl
    subst hp he
    obtain ⟨zA5, zc5, zB5, zd5, rfl⟩ := hat.opened
    simp only [List.take, List.drop, putAll, Act.put, List.setIfInBounds_toArray, List.set_cons_zero, List.set_cons_succ]
    have HA5 := Lib.hid ((hx.block _ (Blk_lt HA4.out)).trans HA4.out)
    have HB5 := Lib.hid ((hx.block _ (Blk_lt HB4.out)).trans HB4.out)
    have HX5 := Lib.hid (HX4.out.trans hx)
    have HQa5 := Lib.hid (show W5.heap[g]? = some (.cells #[.int .i64 2, .bool false, .int .i64 (a * b), .string ByteArray.empty, .string ByteArray.empty, .string ByteArray.empty, .slice zA5 0 zc5, .slice zB5 0 zd5] 28 (0, 0)) from hrow)
    clear hV hlen hx hp hg hrow hz hat he HA4 HB4 HX4 HS4
    have hr0 := HR0.out.1
    have hr1 := HR0.out.2
    have hmu : wrap64 (a * b) = a * b := by have := mul_fit hA.out hB.out; unfold wrap64; omega
    have HA6 := Lib.hid ((heap_alloc_old W5 (.cells #[.int .i64 (a + b), .int .i64 (a - b), .int .i64 (a * b), .int .i64 (-a)] 2) (Blk_lt HA5.out)).trans HA5.out)
    have HB6 := Lib.hid ((heap_alloc_old W5 (.cells #[.int .i64 (a + b), .int .i64 (a - b), .int .i64 (a * b), .int .i64 (-a)] 2) (Blk_lt HB5.out)).trans HB5.out)
    have HP6 := Lib.hid ((heap_alloc_old W5 (.cells #[.int .i64 (a + b), .int .i64 (a - b), .int .i64 (a * b), .int .i64 (-a)] 2) (Blk_lt HQa5.out)).trans HQa5.out)
    have HX6 := Lib.hid (HX5.out.alloc (.cells #[.int .i64 (a + b), .int .i64 (a - b), .int .i64 (a * b), .int .i64 (-a)] 2))
    clear HA5 HB5 HQa5 HX5
    go_wp2_with (first | (with_reducible refine at_load ?_; refine wpList_load_cells rfl 31 _ rfl w2.heap.size 0 rfl Tryd.aggEx Tryd.sizeEx (cs := [.int .i64 1, .int .i64 2, .bool false, .int .i64 a, .string ByteArray.empty, .string ByteArray.empty, .string ByteArray.empty, .slice none 0 0, .slice none 0 0, .string ByteArray.empty, .slice none 0 0, .slice none 0 0]) rfl (cells_of_row HA6.out) ?_) | (with_reducible refine at_load ?_; refine wpList_load_cells rfl 31 _ rfl w3.heap.size 0 rfl Tryd.aggEx Tryd.sizeEx (cs := [.int .i64 1, .int .i64 2, .bool false, .int .i64 b, .string ByteArray.empty, .string ByteArray.empty, .string ByteArray.empty, .slice none 0 0, .slice none 0 0, .string ByteArray.empty, .slice none 0 0, .slice none 0 0]) rfl (cells_of_row HB6.out) ?_))
    obtain ⟨w6, hW⟩ : ∃ W, W = W5.alloc (.cells #[.int .i64 (a + b), .int .i64 (a - b), .int .i64 (a * b), .int .i64 (-a)] 2) := ⟨_, rfl⟩
    rw [← hW] at HA6 HB6 HP6 HX6 ⊢
    have Hsz := Lib.hid (show w6.heap.size = W5.heap.size + 1 by rw [hW]; simp)
    clear hW
    have HS6 := Lib.hid (HS.out.ext HX6.out)
    obtain ⟨tl, htl⟩ : ∃ t, decide (a < b) = t := ⟨_, rfl⟩
    obtain ⟨tm, htm⟩ : ∃ t, decide (a ≤ b) = t := ⟨_, rfl⟩
    have hI := Lib.hid (show I64 a from by unfold I64; omega)
    have hJ := Lib.hid (show I64 b from by unfold I64; omega)
    clear hmu hr0 hr1
    obtain ⟨x7, hW⟩ : ∃ W, W = w6.alloc (.cells #[.int .i64 1, .int .i64 2, .bool false, .int .i64 a, .string ByteArray.empty, .string ByteArray.empty, .string ByteArray.empty, .slice none 0 0, .slice none 0 0, .string ByteArray.empty, .slice none 0 0, .slice none 0 0, .int .i64 1, .int .i64 2, .bool false, .int .i64 b, .string ByteArray.empty, .string ByteArray.empty, .string ByteArray.empty, .slice none 0 0, .slice none 0 0, .string ByteArray.empty, .slice none 0 0, .slice none 0 0] 31) := ⟨_, rfl⟩
    have HR := Lib.hid (show x7.heap[W5.heap.size + 1]? = some (.cells #[.int .i64 1, .int .i64 2, .bool false, .int .i64 a, .string ByteArray.empty, .string ByteArray.empty, .string ByteArray.empty, .slice none 0 0, .slice none 0 0, .string ByteArray.empty, .slice none 0 0, .slice none 0 0, .int .i64 1, .int .i64 2, .bool false, .int .i64 b, .string ByteArray.empty, .string ByteArray.empty, .string ByteArray.empty, .slice none 0 0, .slice none 0 0, .string ByteArray.empty, .slice none 0 0, .slice none 0 0] 31 (0, 0)) by rw [hW, ← Hsz.out]; exact heap_alloc_new _ _)
    have hxx : Ext w6 x7 := by rw [hW]; exact (Ext.refl _).alloc _
    rw [← hW]
    clear hW
    have hk : expR.RowsAt (fun b => b < x7.heap.size) x7 [.lit (.whole a), .lit (.whole b)] (.slice (some ⟨W5.heap.size + 1, 0, none⟩) 2 2) := kids_at (xs := [.int .i64 1, .int .i64 2, .bool false, .int .i64 a, .string ByteArray.empty, .string ByteArray.empty, .string ByteArray.empty, .slice none 0 0, .slice none 0 0, .string ByteArray.empty, .slice none 0 0, .slice none 0 0, .int .i64 1, .int .i64 2, .bool false, .int .i64 b, .string ByteArray.empty, .string ByteArray.empty, .string ByteArray.empty, .slice none 0 0, .slice none 0 0, .string ByteArray.empty, .slice none 0 0, .slice none 0 0]) HR.out (flat_cons (cs := [.int .i64 1, .int .i64 2, .bool false, .int .i64 a, .string ByteArray.empty, .string ByteArray.empty, .string ByteArray.empty, .slice none 0 0, .slice none 0 0, .string ByteArray.empty, .slice none 0 0, .slice none 0 0]) (lit_at (whole_at _ _ a (show I64 a by unfold I64; omega))) (flat_cons (cs := [.int .i64 1, .int .i64 2, .bool false, .int .i64 b, .string ByteArray.empty, .string ByteArray.empty, .string ByteArray.empty, .slice none 0 0, .slice none 0 0, .string ByteArray.empty, .slice none 0 0, .slice none 0 0]) (lit_at (whole_at _ _ b (show I64 b by unfold I64; omega))) flat_nil)) (by rw [LIM_eq]; simp) rfl (by simp) (by rw [maxLen_eq]; omega)
    have hc := evalN_ok (.of 9 [.lit (.whole a), .lit (.whole b)]) (.truth tl, 0) x7 (opC 9 (.slice (some ⟨W5.heap.size + 1, 0, none⟩) 2 2)) (by rw [two_nums _ _ _ _ _ (by omega), two_less, htl]; rfl) (by rw [Exp.of_dep]; simp [Exp.deps, Exp.lit_dep]) (Exp.of_lits (by omega) (by intro x hx; simp at hx; rcases hx with rfl | rfl <;> exact whole_lits _)) (of_num (by simp [Num6]) (by intro x hx; simp at hx; rcases hx with rfl | rfl <;> exact lit_num _)) (of_at (by unfold I64; omega) hk) (HS6.out.ext hxx)
    refine hc.mono ?_
    rintro e7 w7 ⟨cv, rfl, hv, hx7⟩
    obtain ⟨zA7, zc7, zB7, zd7, rfl⟩ := hv.opened
    have hxx := (hxx.trans hx7).alloc (.cells #[.int .i64 1, .bool tl, .int .i64 0, .string ByteArray.empty, .string ByteArray.empty, .string ByteArray.empty, .slice zA7 0 zc7, .slice zB7 0 zd7] 28)
    have HA7 := Lib.hid ((hxx.block _ (Blk_lt HA6.out)).trans HA6.out)
    have HB7 := Lib.hid ((hxx.block _ (Blk_lt HB6.out)).trans HB6.out)
    have HP7 := Lib.hid ((hxx.block _ (Blk_lt HP6.out)).trans HP6.out)
    have HX7 := Lib.hid (HX6.out.trans hxx)
    have HS7 := Lib.hid (HS6.out.ext hxx)
    have HL7 := Lib.hid (heap_alloc_new w7 (.cells #[.int .i64 1, .bool tl, .int .i64 0, .string ByteArray.empty, .string ByteArray.empty, .string ByteArray.empty, .slice zA7 0 zc7, .slice zB7 0 zd7] 28))
    clear hk hc hv hx7 HR hxx Hsz HX6 HS6 HA6 HB6 HP6
    go_wp2_with (first | (with_reducible refine at_load ?_; refine wpList_load_cells rfl 31 _ rfl w2.heap.size 0 rfl Tryd.aggEx Tryd.sizeEx (cs := [.int .i64 1, .int .i64 2, .bool false, .int .i64 a, .string ByteArray.empty, .string ByteArray.empty, .string ByteArray.empty, .slice none 0 0, .slice none 0 0, .string ByteArray.empty, .slice none 0 0, .slice none 0 0]) rfl (cells_of_row HA7.out) ?_) | (with_reducible refine at_load ?_; refine wpList_load_cells rfl 31 _ rfl w3.heap.size 0 rfl Tryd.aggEx Tryd.sizeEx (cs := [.int .i64 1, .int .i64 2, .bool false, .int .i64 b, .string ByteArray.empty, .string ByteArray.empty, .string ByteArray.empty, .slice none 0 0, .slice none 0 0, .string ByteArray.empty, .slice none 0 0, .slice none 0 0]) rfl (cells_of_row HB7.out) ?_))
    obtain ⟨w7', hW⟩ : ∃ W, W = w7.alloc (.cells #[.int .i64 1, .bool tl, .int .i64 0, .string ByteArray.empty, .string ByteArray.empty, .string ByteArray.empty, .slice zA7 0 zc7, .slice zB7 0 zd7] 28) := ⟨_, rfl⟩
    rw [← hW] at HA7 HB7 HP7 HL7 HX7 HS7 ⊢
    have Hsz := Lib.hid (show w7'.heap.size = w7.heap.size + 1 by rw [hW]; simp)
    clear hW
    obtain ⟨x8, hW⟩ : ∃ W, W = w7'.alloc (.cells #[.int .i64 1, .int .i64 2, .bool false, .int .i64 a, .string ByteArray.empty, .string ByteArray.empty, .string ByteArray.empty, .slice none 0 0, .slice none 0 0, .string ByteArray.empty, .slice none 0 0, .slice none 0 0, .int .i64 1, .int .i64 2, .bool false, .int .i64 b, .string ByteArray.empty, .string ByteArray.empty, .string ByteArray.empty, .slice none 0 0, .slice none 0 0, .string ByteArray.empty, .slice none 0 0, .slice none 0 0] 31) := ⟨_, rfl⟩
    have HR := Lib.hid (show x8.heap[w7.heap.size + 1]? = some (.cells #[.int .i64 1, .int .i64 2, .bool false, .int .i64 a, .string ByteArray.empty, .string ByteArray.empty, .string ByteArray.empty, .slice none 0 0, .slice none 0 0, .string ByteArray.empty, .slice none 0 0, .slice none 0 0, .int .i64 1, .int .i64 2, .bool false, .int .i64 b, .string ByteArray.empty, .string ByteArray.empty, .string ByteArray.empty, .slice none 0 0, .slice none 0 0, .string ByteArray.empty, .slice none 0 0, .slice none 0 0] 31 (0, 0)) by rw [hW, ← Hsz.out]; exact heap_alloc_new _ _)
    have hxx : Ext w7' x8 := by rw [hW]; exact (Ext.refl _).alloc _
    rw [← hW]
    clear hW
    have hk : expR.RowsAt (fun b => b < x8.heap.size) x8 [.lit (.whole a), .lit (.whole b)] (.slice (some ⟨w7.heap.size + 1, 0, none⟩) 2 2) := kids_at (xs := [.int .i64 1, .int .i64 2, .bool false, .int .i64 a, .string ByteArray.empty, .string ByteArray.empty, .string ByteArray.empty, .slice none 0 0, .slice none 0 0, .string ByteArray.empty, .slice none 0 0, .slice none 0 0, .int .i64 1, .int .i64 2, .bool false, .int .i64 b, .string ByteArray.empty, .string ByteArray.empty, .string ByteArray.empty, .slice none 0 0, .slice none 0 0, .string ByteArray.empty, .slice none 0 0, .slice none 0 0]) HR.out (flat_cons (cs := [.int .i64 1, .int .i64 2, .bool false, .int .i64 a, .string ByteArray.empty, .string ByteArray.empty, .string ByteArray.empty, .slice none 0 0, .slice none 0 0, .string ByteArray.empty, .slice none 0 0, .slice none 0 0]) (lit_at (whole_at _ _ a (show I64 a by unfold I64; omega))) (flat_cons (cs := [.int .i64 1, .int .i64 2, .bool false, .int .i64 b, .string ByteArray.empty, .string ByteArray.empty, .string ByteArray.empty, .slice none 0 0, .slice none 0 0, .string ByteArray.empty, .slice none 0 0, .slice none 0 0]) (lit_at (whole_at _ _ b (show I64 b by unfold I64; omega))) flat_nil)) (by rw [LIM_eq]; simp) rfl (by simp) (by rw [maxLen_eq]; omega)
    have hc := evalN_ok (.of 10 [.lit (.whole a), .lit (.whole b)]) (.truth tm, 0) x8 (opC 10 (.slice (some ⟨w7.heap.size + 1, 0, none⟩) 2 2)) (by rw [two_nums _ _ _ _ _ (by omega), two_le, htm]; rfl) (by rw [Exp.of_dep]; simp [Exp.deps, Exp.lit_dep]) (Exp.of_lits (by omega) (by intro x hx; simp at hx; rcases hx with rfl | rfl <;> exact whole_lits _)) (of_num (by simp [Num6]) (by intro x hx; simp at hx; rcases hx with rfl | rfl <;> exact lit_num _)) (of_at (by unfold I64; omega) hk) (HS7.out.ext hxx)
    refine hc.mono ?_
    rintro e8 w8 ⟨cv, rfl, hv, hx8⟩
    obtain ⟨zA8, zc8, zB8, zd8, rfl⟩ := hv.opened
    have hxx := (hxx.trans hx8).alloc (.cells #[.int .i64 1, .bool tm, .int .i64 0, .string ByteArray.empty, .string ByteArray.empty, .string ByteArray.empty, .slice zA8 0 zc8, .slice zB8 0 zd8] 28)
    have HA8 := Lib.hid ((hxx.block _ (Blk_lt HA7.out)).trans HA7.out)
    have HB8 := Lib.hid ((hxx.block _ (Blk_lt HB7.out)).trans HB7.out)
    have HP8 := Lib.hid ((hxx.block _ (Blk_lt HP7.out)).trans HP7.out)
    have HL8 := Lib.hid ((hxx.block _ (Blk_lt HL7.out)).trans HL7.out)
    have HX8 := Lib.hid (HX7.out.trans hxx)
    have HS8 := Lib.hid (HS7.out.ext hxx)
    have HM8 := Lib.hid (heap_alloc_new w8 (.cells #[.int .i64 1, .bool tm, .int .i64 0, .string ByteArray.empty, .string ByteArray.empty, .string ByteArray.empty, .slice zA8 0 zc8, .slice zB8 0 zd8] 28))
    clear hk hc hv hx8 HR hxx Hsz HX7 HS7 HA7 HB7 HP7 HL7
    go_wp2_with fail
    refine (lit_ok 2 false 9223372036854775807 ByteArray.empty ByteArray.empty ByteArray.empty none 0 0 none 0 0 _).mono ?_
    rintro e10 w10 ⟨rfl, hx10⟩
    have hxx := hx10.alloc (.cells #[.int .i64 1, .int .i64 2, .bool false, .int .i64 9223372036854775807, .string ByteArray.empty, .string ByteArray.empty, .string ByteArray.empty, .slice none 0 0, .slice none 0 0, .string ByteArray.empty, .slice none 0 0, .slice none 0 0] 31)
    have HP9 := Lib.hid ((hxx.block _ (Blk_lt HP8.out)).trans HP8.out)
    have HL9 := Lib.hid ((hxx.block _ (Blk_lt HL8.out)).trans HL8.out)
    have HM9 := Lib.hid ((hxx.block _ (Blk_lt HM8.out)).trans HM8.out)
    have HX9 := Lib.hid (HX8.out.trans hxx)
    have HS9 := Lib.hid (HS8.out.ext hxx)
    have HG9 := Lib.hid (heap_alloc_new w10 (.cells #[.int .i64 1, .int .i64 2, .bool false, .int .i64 9223372036854775807, .string ByteArray.empty, .string ByteArray.empty, .string ByteArray.empty, .slice none 0 0, .slice none 0 0, .string ByteArray.empty, .slice none 0 0, .slice none 0 0] 31))
    clear hx10 hxx HP8 HL8 HM8 HX8 HS8 HA8 HB8
    go_wp2_with fail
    obtain ⟨w11, hW⟩ : ∃ W, W = w10.alloc (.cells #[.int .i64 1, .int .i64 2, .bool false, .int .i64 9223372036854775807, .string ByteArray.empty, .string ByteArray.empty, .string ByteArray.empty, .slice none 0 0, .slice none 0 0, .string ByteArray.empty, .slice none 0 0, .slice none 0 0] 31) := ⟨_, rfl⟩
    rw [← hW] at HP9 HL9 HM9 HX9 HS9 HG9 ⊢
    clear hW
    refine region_askV (fun b => b < w11.heap.size) w11.heap.size 6 13 100 93 101 102 19 rfl (SumV w11 [.int .i64 1, .int .i64 2, .bool false, .int .i64 9223372036854775807, .string ByteArray.empty, .string ByteArray.empty, .string ByteArray.empty, .slice none 0 0, .slice none 0 0, .string ByteArray.empty, .slice none 0 0, .slice none 0 0] [.int .i64 1, .int .i64 2, .bool false, .int .i64 1, .string ByteArray.empty, .string ByteArray.empty, .string ByteArray.empty, .slice none 0 0, .slice none 0 0, .string ByteArray.empty, .slice none 0 0, .slice none 0 0]) (.zero, 14) (by kernel_rfl) (by kernel_rfl) (by kernel_rfl) (fun _ h => h) (Nat.le_refl _) (fun i v W W' _ h _ k => h.ext i v W W' k) (fun i v W g cur row _ h _ _ hc => h.row i v W hc)
      ⟨_, _, _, _, _, _, _, rfl, rfl, rfl, rfl, rfl, rfl, rfl, rfl, rfl, rfl, rfl, rfl, rfl⟩ ⟨by kernel_rfl, by kernel_rfl, by kernel_rfl, by kernel_rfl, by kernel_rfl⟩ ⟨by kernel_rfl, by kernel_rfl, by kernel_rfl, by kernel_rfl, by kernel_rfl, by kernel_rfl⟩ (fun i o hi ho W5 c hx hold hf Q K hK => ?_) (fun o ho W5 c hx hold hf => ?_) (fun xs W12 z cv g2 hlen hx hV hp hg hrow hz hat he => ?_)
    · rcases (by omega : i = 0 ∨ i = 1 ∨ i = 2 ∨ i = 3 ∨ i = 4 ∨ i = 5) with rfl | rfl | rfl | rfl | rfl | rfl <;> obtain rfl := Option.some.inj ho
      · exact wp_known (exec_load_cells 31 _ rfl w10.heap.size 0 (hold 18 (by kernel_rfl)) Tryd.aggEx Tryd.sizeEx (cs := [.int .i64 1, .int .i64 2, .bool false, .int .i64 9223372036854775807, .string ByteArray.empty, .string ByteArray.empty, .string ByteArray.empty, .slice none 0 0, .slice none 0 0, .string ByteArray.empty, .slice none 0 0, .slice none 0 0]) rfl (cells_of_row ((hx.block _ (Blk_lt HG9.out)).trans HG9.out))) hK
      · exact wp_known (exec_bldX rfl (by simp only [List.map_toArray, List.map_cons, List.map_nil]; rfl) (Tryd.bldV 1 W5)) hK
      · refine wp_enters (Φ := fun v _ => v = .agg ([.int .i64 1, .int .i64 2, .bool false, .int .i64 1, .string ByteArray.empty, .string ByteArray.empty, .string ByteArray.empty, .slice none 0 0, .slice none 0 0, .string ByteArray.empty, .slice none 0 0, .slice none 0 0] : List Value).toArray) (exec_call Tryd.func6 rfl rfl rfl (map_one (hf 1 95 (by omega) (by kernel_rfl) (by kernel_rfl)))) ((lit_ok 2 false 1 ByteArray.empty ByteArray.empty ByteArray.empty none 0 0 none 0 0 W5).mono fun e W3 ⟨he, hx3⟩ => ⟨_, he, hx3, rfl⟩) hK
      · have k1 : c.eval (.tmp 94) = .agg ([.int .i64 1, .int .i64 2, .bool false, .int .i64 9223372036854775807, .string ByteArray.empty, .string ByteArray.empty, .string ByteArray.empty, .slice none 0 0, .slice none 0 0, .string ByteArray.empty, .slice none 0 0, .slice none 0 0] : List Value).toArray := (hf 0 94 (by omega) (by kernel_rfl) (by kernel_rfl))
        have k2 : c.eval (.tmp 96) = .agg ([.int .i64 1, .int .i64 2, .bool false, .int .i64 1, .string ByteArray.empty, .string ByteArray.empty, .string ByteArray.empty, .slice none 0 0, .slice none 0 0, .string ByteArray.empty, .slice none 0 0, .slice none 0 0] : List Value).toArray := (hf 2 96 (by omega) (by kernel_rfl) (by kernel_rfl))
        exact wp_leaves (Φ := SumV w11 [.int .i64 1, .int .i64 2, .bool false, .int .i64 9223372036854775807, .string ByteArray.empty, .string ByteArray.empty, .string ByteArray.empty, .slice none 0 0, .slice none 0 0, .string ByteArray.empty, .slice none 0 0, .slice none 0 0] [.int .i64 1, .int .i64 2, .bool false, .int .i64 1, .string ByteArray.empty, .string ByteArray.empty, .string ByteArray.empty, .slice none 0 0, .slice none 0 0, .string ByteArray.empty, .slice none 0 0, .slice none 0 0] 3) (exec_buildN _ _ _ rfl (by simp only [List.map_toArray, List.map_cons, List.map_nil, k1, k2]) (Tryd.rowN2 [.int .i64 1, .int .i64 2, .bool false, .int .i64 9223372036854775807, .string ByteArray.empty, .string ByteArray.empty, .string ByteArray.empty, .slice none 0 0, .slice none 0 0, .string ByteArray.empty, .slice none 0 0, .slice none 0 0] [.int .i64 1, .int .i64 2, .bool false, .int .i64 1, .string ByteArray.empty, .string ByteArray.empty, .string ByteArray.empty, .slice none 0 0, .slice none 0 0, .string ByteArray.empty, .slice none 0 0, .slice none 0 0] rfl rfl W5)) ((Ext.refl W5).alloc _) ⟨_, rfl, hx.size, heap_alloc_new _ _⟩ hK
      · obtain ⟨A, k2, h1, h2⟩ := (hf 3 97 (by omega) (by kernel_rfl) (by kernel_rfl))
        exact wp_leaves (Φ := SumV w11 [.int .i64 1, .int .i64 2, .bool false, .int .i64 9223372036854775807, .string ByteArray.empty, .string ByteArray.empty, .string ByteArray.empty, .slice none 0 0, .slice none 0 0, .string ByteArray.empty, .slice none 0 0, .slice none 0 0] [.int .i64 1, .int .i64 2, .bool false, .int .i64 1, .string ByteArray.empty, .string ByteArray.empty, .string ByteArray.empty, .slice none 0 0, .slice none 0 0, .string ByteArray.empty, .slice none 0 0, .slice none 0 0] 4) (exec_bldX rfl (by simp only [List.map_toArray, List.map_cons, List.map_nil, k2]; rfl) (Tryd.bldN 11 _ _ _ W5)) (Ext.refl W5) ⟨A, rfl, h1, h2⟩ hK
      · exact wp_known (exec_bldX rfl (by simp only [List.map_toArray, List.map_nil]) (Tryd.bldQ W5)) hK
    · obtain rfl := Option.some.inj ho
      obtain ⟨A, k1, hr1, hr2⟩ := (hf 4 98 (by omega) (by kernel_rfl) (by kernel_rfl))
      have hk : expR.RowsAt (fun b => b < W5.heap.size) W5 [.lit (.whole 9223372036854775807), .lit (.whole 1)] (.slice (some ⟨A, 0, none⟩) 2 2) := kids_at (xs := [.int .i64 1, .int .i64 2, .bool false, .int .i64 9223372036854775807, .string ByteArray.empty, .string ByteArray.empty, .string ByteArray.empty, .slice none 0 0, .slice none 0 0, .string ByteArray.empty, .slice none 0 0, .slice none 0 0] ++ [.int .i64 1, .int .i64 2, .bool false, .int .i64 1, .string ByteArray.empty, .string ByteArray.empty, .string ByteArray.empty, .slice none 0 0, .slice none 0 0, .string ByteArray.empty, .slice none 0 0, .slice none 0 0]) hr2 (flat_cons (cs := [.int .i64 1, .int .i64 2, .bool false, .int .i64 9223372036854775807, .string ByteArray.empty, .string ByteArray.empty, .string ByteArray.empty, .slice none 0 0, .slice none 0 0, .string ByteArray.empty, .slice none 0 0, .slice none 0 0]) (lit_at (whole_at _ _ 9223372036854775807 (by unfold I64; omega))) (flat_cons (cs := [.int .i64 1, .int .i64 2, .bool false, .int .i64 1, .string ByteArray.empty, .string ByteArray.empty, .string ByteArray.empty, .slice none 0 0, .slice none 0 0, .string ByteArray.empty, .slice none 0 0, .slice none 0 0]) (lit_at (whole_at _ _ 1 (by unfold I64; omega))) flat_nil)) (by rw [LIM_eq]; simp) rfl (by simp) (by rw [maxLen_eq]; omega)
      refine ⟨_, _, exec_call Tryd.func7 rfl rfl rfl (map_three k1 (hf 5 99 (by omega) (by kernel_rfl) (by kernel_rfl)) rfl), (evalN_ok (.of 11 [.lit (.whole 9223372036854775807), .lit (.whole 1)]) (.zero, 14) W5 (opC 11 (.slice (some ⟨A, 0, none⟩) 2 2)) (by rw [two_nums _ _ _ _ _ (by omega), two_add, fitI_out (by omega)]; rfl) (by rw [Exp.of_dep]; simp [Exp.deps, Exp.lit_dep]) (Exp.of_lits (by omega) (by intro x hx; simp at hx; rcases hx with rfl | rfl <;> exact whole_lits _)) (of_num (by simp [Num6]) (by intro x hx; simp at hx; rcases hx with rfl | rfl <;> exact lit_num _)) (of_at (by unfold I64; omega) hk) (HS9.out.ext hx)).mono fun e w' h => refAns_fresh h⟩
    · obtain ⟨u0, u1, u2, u3, u4, u5, u6, u7, u8, u9, v0, v1, v2, rfl⟩ := list13n hlen
      have hp : v0 = .pointer (some ⟨g2, 0, none⟩) := hp
      have he : v2 = .int .i64 14 := he
      subst hp he
      simp only [List.take, List.drop, putAll, Act.put, List.setIfInBounds_toArray, List.set_cons_zero, List.set_cons_succ]
      have HPe := Lib.hid ((hx.block _ (Blk_lt HP9.out)).trans HP9.out)
      have HLe := Lib.hid ((hx.block _ (Blk_lt HL9.out)).trans HL9.out)
      have HMe := Lib.hid ((hx.block _ (Blk_lt HM9.out)).trans HM9.out)
      have HXe := Lib.hid (HX9.out.trans hx)
      have f0 : W12.cell? ⟨g, 0, none⟩ = some (.int .i64 2) := cell_of_row _ _ 0 _ _ _ HPe.out
      have f1 : W12.cell? ⟨g, 2, none⟩ = some (.int .i64 (a * b)) := cell_of_row _ _ 2 _ _ _ HPe.out
      have f2 : W12.cell? ⟨w7.heap.size, 1, none⟩ = some (.bool tl) := cell_of_row _ _ 1 _ _ _ HLe.out
      have f3 : W12.cell? ⟨w8.heap.size, 1, none⟩ = some (.bool tm) := cell_of_row _ _ 1 _ _ _ HMe.out
      clear hV hlen hx hp hg hrow hz hat he HP9 HL9 HM9 HX9 HS9 HG9
      have q1 : (tl == tl) = true := by simp
      have q2 : (tm == tm) = true := by simp
      go_wp2_with fail
      go_ret
      exact ⟨rfl, HXe.out⟩
set_option maxRecDepth 100000 in
set_option maxHeartbeats 4000000 in
theorem evalNumbers_3 (a b op : Int) (ha : -2147483648 ≤ a ∧ a ≤ 2147483647) (hb : -2147483648 ≤ b ∧ b ≤ 2147483647) (hk : op % 4 = 3) (W : World) (hs : Sums W) :
    Calls Tryd.prog 3 #[.int .i32 a, .int .i32 b, .int .i64 op] W fun e W' => e = .returned (.bool true) ∧ Ext W W' := by
  have hA := Lib.hid ha
  have hB := Lib.hid hb
  have HS := Lib.hid hs
  have hop : bits .and .i64 op 3 = 3 := by rw [i64_and3n]; exact hk
  obtain ⟨a0, a1⟩ := ha
  obtain ⟨b0, b1⟩ := hb
  clear hk hs
  go_enter Tryd.func3, Tryd.ntmps3
  go_wp2_with fail
  refine (awake14_ok W HS.out).mono ?_
  rintro e1 w1 ⟨rfl, hx1⟩
  have HX1 := Lib.hid hx1
  clear hx1
  go_wp2_with fail
  refine (lit_ok 2 false a ByteArray.empty ByteArray.empty ByteArray.empty none 0 0 none 0 0 _).mono ?_
  rintro e2 w2 ⟨rfl, hx2⟩
  have HX2 := Lib.hid (HX1.out.trans hx2)
  clear hx2 HX1
  go_wp2_with fail
  refine (lit_ok 2 false b ByteArray.empty ByteArray.empty ByteArray.empty none 0 0 none 0 0 _).mono ?_
  rintro e3 w3 ⟨rfl, hx3⟩
  have HA3 := Lib.hid ((hx3.block _ (by simp)).trans (heap_alloc_new w2 (.cells #[.int .i64 1, .int .i64 2, .bool false, .int .i64 a, .string ByteArray.empty, .string ByteArray.empty, .string ByteArray.empty, .slice none 0 0, .slice none 0 0, .string ByteArray.empty, .slice none 0 0, .slice none 0 0] 31)))
  have HX3 := Lib.hid ((HX2.out.alloc (.cells #[.int .i64 1, .int .i64 2, .bool false, .int .i64 a, .string ByteArray.empty, .string ByteArray.empty, .string ByteArray.empty, .slice none 0 0, .slice none 0 0, .string ByteArray.empty, .slice none 0 0, .slice none 0 0] 31)).trans hx3)
  clear hx3 HX2
  go_wp2_with fail
  have HA4 := Lib.hid ((heap_alloc_old w3 (.cells #[.int .i64 1, .int .i64 2, .bool false, .int .i64 b, .string ByteArray.empty, .string ByteArray.empty, .string ByteArray.empty, .slice none 0 0, .slice none 0 0, .string ByteArray.empty, .slice none 0 0, .slice none 0 0] 31) (Blk_lt HA3.out)).trans HA3.out)
  have HB4 := Lib.hid (heap_alloc_new w3 (.cells #[.int .i64 1, .int .i64 2, .bool false, .int .i64 b, .string ByteArray.empty, .string ByteArray.empty, .string ByteArray.empty, .slice none 0 0, .slice none 0 0, .string ByteArray.empty, .slice none 0 0, .slice none 0 0] 31))
  have HX4 := Lib.hid (HX3.out.alloc (.cells #[.int .i64 1, .int .i64 2, .bool false, .int .i64 b, .string ByteArray.empty, .string ByteArray.empty, .string ByteArray.empty, .slice none 0 0, .slice none 0 0, .string ByteArray.empty, .slice none 0 0, .slice none 0 0] 31))
  obtain ⟨w4, hW⟩ : ∃ W, W = w3.alloc (.cells #[.int .i64 1, .int .i64 2, .bool false, .int .i64 b, .string ByteArray.empty, .string ByteArray.empty, .string ByteArray.empty, .slice none 0 0, .slice none 0 0, .string ByteArray.empty, .slice none 0 0, .slice none 0 0] 31) := ⟨_, rfl⟩
  rw [← hW] at HA4 HB4 HX4 ⊢
  clear hW
  have HS4 := Lib.hid (HS.out.ext HX4.out)
  have HR0 := Lib.hid (show -9223372036854775808 ≤ -a ∧ -a ≤ 9223372036854775807 from by omega)
  clear HA3 HX3 hop
  refine region_askV (fun b => b < w4.heap.size) w4.heap.size 13 20 48 34 49 50 11 rfl (NumV w4 3 14 1 [.int .i64 1, .int .i64 2, .bool false, .int .i64 a, .string ByteArray.empty, .string ByteArray.empty, .string ByteArray.empty, .slice none 0 0, .slice none 0 0, .string ByteArray.empty, .slice none 0 0, .slice none 0 0] [.int .i64 1, .int .i64 2, .bool false, .int .i64 b, .string ByteArray.empty, .string ByteArray.empty, .string ByteArray.empty, .slice none 0 0, .slice none 0 0, .string ByteArray.empty, .slice none 0 0, .slice none 0 0]) (.whole (-a), 0) (by kernel_rfl) (by kernel_rfl) (by kernel_rfl) (fun _ h => h) (Nat.le_refl _) (fun i v W W' _ h _ k => h.ext i v W W' k) (fun i v W g cur row _ h _ _ hc => h.row i v W hc)
    ⟨_, _, _, _, _, _, _, rfl, rfl, rfl, rfl, rfl, rfl, rfl, rfl, rfl, rfl, rfl, rfl, rfl⟩ ⟨by kernel_rfl, by kernel_rfl, by kernel_rfl, by kernel_rfl, by kernel_rfl⟩ ⟨by kernel_rfl, by kernel_rfl, by kernel_rfl, by kernel_rfl, by kernel_rfl, by kernel_rfl⟩ (fun i o hi ho W5 c hx hold hf Q K hK => ?_) (fun o ho W5 c hx hold hf => ?_) (fun xs W5 z cv g hlen hx hV hp hg hrow hz hat he => ?_)
  · rcases (by omega : i = 0 ∨ i = 1 ∨ i = 2 ∨ i = 3 ∨ i = 4 ∨ i = 5 ∨ i = 6 ∨ i = 7 ∨ i = 8 ∨ i = 9 ∨ i = 10 ∨ i = 11 ∨ i = 12) with rfl | rfl | rfl | rfl | rfl | rfl | rfl | rfl | rfl | rfl | rfl | rfl | rfl <;> obtain rfl := Option.some.inj ho
    · exact wp_leaves (Φ := (NumV w4 3 14 1 [.int .i64 1, .int .i64 2, .bool false, .int .i64 a, .string ByteArray.empty, .string ByteArray.empty, .string ByteArray.empty, .slice none 0 0, .slice none 0 0, .string ByteArray.empty, .slice none 0 0, .slice none 0 0] [.int .i64 1, .int .i64 2, .bool false, .int .i64 b, .string ByteArray.empty, .string ByteArray.empty, .string ByteArray.empty, .slice none 0 0, .slice none 0 0, .string ByteArray.empty, .slice none 0 0, .slice none 0 0]) 0) (exec_buildN _ _ _ rfl (by simp only [List.map_toArray, List.map_cons, List.map_nil]; rfl) (Tryd.buildN4 W5)) ((Ext.refl W5).alloc _) ⟨_, rfl, heap_alloc_new _ _⟩ hK
    · exact wp_known (exec_move rfl (hold 10 (by kernel_rfl))) hK
    · obtain ⟨A, k1, h1⟩ := (hf 0 35 (by omega) (by kernel_rfl) (by kernel_rfl))
      exact wp_leaves (Φ := (NumV w4 3 14 1 [.int .i64 1, .int .i64 2, .bool false, .int .i64 a, .string ByteArray.empty, .string ByteArray.empty, .string ByteArray.empty, .slice none 0 0, .slice none 0 0, .string ByteArray.empty, .slice none 0 0, .slice none 0 0] [.int .i64 1, .int .i64 2, .bool false, .int .i64 b, .string ByteArray.empty, .string ByteArray.empty, .string ByteArray.empty, .slice none 0 0, .slice none 0 0, .string ByteArray.empty, .slice none 0 0, .slice none 0 0]) 2) (exec_index rfl k1 (hf 1 36 (by omega) (by kernel_rfl) (by kernel_rfl)) Tryd.undIs Tryd.sizIs (by omega)) (Ext.refl W5) ⟨A, rfl, h1⟩ hK
    · obtain ⟨A, k1, h1⟩ := (hf 2 37 (by omega) (by kernel_rfl) (by kernel_rfl))
      exact wp_known (exec_load_one 3 _ rfl A (0 + 3 * 1) k1 Tryd.aggIs (cell_of_row _ _ 3 _ _ _ h1)) hK
    · exact wp_known (exec_load_cells 31 _ rfl w2.heap.size 0 (hold 8 (by kernel_rfl)) Tryd.aggEx Tryd.sizeEx (cs := [.int .i64 1, .int .i64 2, .bool false, .int .i64 a, .string ByteArray.empty, .string ByteArray.empty, .string ByteArray.empty, .slice none 0 0, .slice none 0 0, .string ByteArray.empty, .slice none 0 0, .slice none 0 0]) rfl (cells_of_row ((hx.block _ (Blk_lt HA4.out)).trans HA4.out))) hK
    · exact wp_known (exec_load_cells 31 _ rfl w3.heap.size 0 (hold 9 (by kernel_rfl)) Tryd.aggEx Tryd.sizeEx (cs := [.int .i64 1, .int .i64 2, .bool false, .int .i64 b, .string ByteArray.empty, .string ByteArray.empty, .string ByteArray.empty, .slice none 0 0, .slice none 0 0, .string ByteArray.empty, .slice none 0 0, .slice none 0 0]) rfl (cells_of_row ((hx.block _ (Blk_lt HB4.out)).trans HB4.out))) hK
    · have k1 : c.eval (.tmp 39) = .agg ([.int .i64 1, .int .i64 2, .bool false, .int .i64 a, .string ByteArray.empty, .string ByteArray.empty, .string ByteArray.empty, .slice none 0 0, .slice none 0 0, .string ByteArray.empty, .slice none 0 0, .slice none 0 0] : List Value).toArray := (hf 4 39 (by omega) (by kernel_rfl) (by kernel_rfl))
      have k2 : c.eval (.tmp 40) = .agg ([.int .i64 1, .int .i64 2, .bool false, .int .i64 b, .string ByteArray.empty, .string ByteArray.empty, .string ByteArray.empty, .slice none 0 0, .slice none 0 0, .string ByteArray.empty, .slice none 0 0, .slice none 0 0] : List Value).toArray := (hf 5 40 (by omega) (by kernel_rfl) (by kernel_rfl))
      exact wp_leaves (Φ := (NumV w4 3 14 1 [.int .i64 1, .int .i64 2, .bool false, .int .i64 a, .string ByteArray.empty, .string ByteArray.empty, .string ByteArray.empty, .slice none 0 0, .slice none 0 0, .string ByteArray.empty, .slice none 0 0, .slice none 0 0] [.int .i64 1, .int .i64 2, .bool false, .int .i64 b, .string ByteArray.empty, .string ByteArray.empty, .string ByteArray.empty, .slice none 0 0, .slice none 0 0, .string ByteArray.empty, .slice none 0 0, .slice none 0 0]) 6) (exec_buildN _ _ _ rfl (by simp only [List.map_toArray, List.map_cons, List.map_nil, k1, k2]) (Tryd.rowN2 [.int .i64 1, .int .i64 2, .bool false, .int .i64 a, .string ByteArray.empty, .string ByteArray.empty, .string ByteArray.empty, .slice none 0 0, .slice none 0 0, .string ByteArray.empty, .slice none 0 0, .slice none 0 0] [.int .i64 1, .int .i64 2, .bool false, .int .i64 b, .string ByteArray.empty, .string ByteArray.empty, .string ByteArray.empty, .slice none 0 0, .slice none 0 0, .string ByteArray.empty, .slice none 0 0, .slice none 0 0] rfl rfl W5)) ((Ext.refl W5).alloc _) ⟨_, rfl, hx.size, heap_alloc_new _ _⟩ hK
    · exact wp_known (exec_move rfl (hold 10 (by kernel_rfl))) hK
    · exact wp_known (exec_binX rfl (hf 7 42 (by omega) (by kernel_rfl) (by kernel_rfl)) rfl (by kernel_rfl)) hK
    · exact wp_known (exec_binX rfl rfl (hf 8 43 (by omega) (by kernel_rfl) (by kernel_rfl)) (by kernel_rfl)) hK
    · obtain ⟨A, k1, h1, h2⟩ := (hf 6 41 (by omega) (by kernel_rfl) (by kernel_rfl))
      exact wp_leaves (Φ := (NumV w4 3 14 1 [.int .i64 1, .int .i64 2, .bool false, .int .i64 a, .string ByteArray.empty, .string ByteArray.empty, .string ByteArray.empty, .slice none 0 0, .slice none 0 0, .string ByteArray.empty, .slice none 0 0, .slice none 0 0] [.int .i64 1, .int .i64 2, .bool false, .int .i64 b, .string ByteArray.empty, .string ByteArray.empty, .string ByteArray.empty, .slice none 0 0, .slice none 0 0, .string ByteArray.empty, .slice none 0 0, .slice none 0 0]) 10) (exec_cut_hi rfl k1 (hf 9 44 (by omega) (by kernel_rfl) (by kernel_rfl)) (Tryd.cutN A 1 (by omega) W5)) (Ext.refl W5) ⟨A, rfl, h1, h2⟩ hK
    · have k1 : c.eval (.tmp 38) = .int .i64 14 := (hf 3 38 (by omega) (by kernel_rfl) (by kernel_rfl))
      obtain ⟨A, k2, h1, h2⟩ := (hf 10 45 (by omega) (by kernel_rfl) (by kernel_rfl))
      exact wp_leaves (Φ := (NumV w4 3 14 1 [.int .i64 1, .int .i64 2, .bool false, .int .i64 a, .string ByteArray.empty, .string ByteArray.empty, .string ByteArray.empty, .slice none 0 0, .slice none 0 0, .string ByteArray.empty, .slice none 0 0, .slice none 0 0] [.int .i64 1, .int .i64 2, .bool false, .int .i64 b, .string ByteArray.empty, .string ByteArray.empty, .string ByteArray.empty, .slice none 0 0, .slice none 0 0, .string ByteArray.empty, .slice none 0 0, .slice none 0 0]) 11) (exec_bldX rfl (by simp only [List.map_toArray, List.map_cons, List.map_nil, k1, k2]) (Tryd.bldN 14 _ _ _ W5)) (Ext.refl W5) ⟨A, rfl, h1, h2⟩ hK
    · exact wp_known (exec_bldX rfl (by simp only [List.map_toArray, List.map_nil]) (Tryd.bldQ W5)) hK
  · obtain rfl := Option.some.inj ho
    obtain ⟨A, k1, hr1, hr2⟩ := (hf 11 46 (by omega) (by kernel_rfl) (by kernel_rfl))
    have hk : expR.RowsAt (fun b => b < W5.heap.size) W5 [.lit (.whole a)] (.slice (some ⟨A, 0, none⟩) 1 2) := one_at (cs := [.int .i64 1, .int .i64 2, .bool false, .int .i64 a, .string ByteArray.empty, .string ByteArray.empty, .string ByteArray.empty, .slice none 0 0, .slice none 0 0, .string ByteArray.empty, .slice none 0 0, .slice none 0 0]) (r := [.int .i64 1, .int .i64 2, .bool false, .int .i64 b, .string ByteArray.empty, .string ByteArray.empty, .string ByteArray.empty, .slice none 0 0, .slice none 0 0, .string ByteArray.empty, .slice none 0 0, .slice none 0 0]) hr2 (lit_at (whole_at _ _ a (show I64 a by unfold I64; omega))) (by omega) (by rw [maxLen_eq]; omega)
    refine ⟨_, _, exec_call Tryd.func7 rfl rfl rfl (map_three k1 (hf 12 47 (by omega) (by kernel_rfl) (by kernel_rfl)) rfl), (evalN_ok (.of 14 [.lit (.whole a)]) (.whole (-a), 0) W5 (opC 14 (.slice (some ⟨A, 0, none⟩) 1 2)) (by rw [one_num, fitI_in HR0.out]) (by rw [Exp.of_dep]; simp [Exp.deps, Exp.lit_dep]) (Exp.of_lits (by omega) (by intro x hx; simp at hx; rcases hx with rfl <;> exact whole_lits _)) (of_num (by simp [Num6]) (by intro x hx; simp at hx; rcases hx with rfl <;> exact lit_num _)) (of_at (by unfold I64; omega) hk) (HS4.out.ext hx)).mono fun e w' h => refAns_fresh h⟩
  · obtain ⟨p0, p1, p2, p3, p4, p5, p6, p7, p8, p9, s0, s1, s2, s3, s4, s5, s6, s7, s8, s9, rfl⟩ := list20r hlen
    have hp : s7 = .pointer (some ⟨g, 0, none⟩) := hp
    have he : s9 = .int .i64 0 := he
    obtain rfl : z = .whole (-a) := hz rfl
    subst hp he
    obtain ⟨zA5, zc5, zB5, zd5, rfl⟩ := hat.opened
    simp only [List.take, List.drop, putAll, Act.put, List.setIfInBounds_toArray, List.set_cons_zero, List.set_cons_succ]
    have HA5 := Lib.hid ((hx.block _ (Blk_lt HA4.out)).trans HA4.out)
    have HB5 := Lib.hid ((hx.block _ (Blk_lt HB4.out)).trans HB4.out)
    have HX5 := Lib.hid (HX4.out.trans hx)
    have HQa5 := Lib.hid (show W5.heap[g]? = some (.cells #[.int .i64 2, .bool false, .int .i64 (-a), .string ByteArray.empty, .string ByteArray.empty, .string ByteArray.empty, .slice zA5 0 zc5, .slice zB5 0 zd5] 28 (0, 0)) from hrow)
    clear hV hlen hx hp hg hrow hz hat he HA4 HB4 HX4 HS4
    have hr0 := HR0.out.1
    have hr1 := HR0.out.2
    have hmu : wrap64 (a * b) = a * b := by have := mul_fit hA.out hB.out; unfold wrap64; omega
    have HA6 := Lib.hid ((heap_alloc_old W5 (.cells #[.int .i64 (a + b), .int .i64 (a - b), .int .i64 (a * b), .int .i64 (-a)] 2) (Blk_lt HA5.out)).trans HA5.out)
    have HB6 := Lib.hid ((heap_alloc_old W5 (.cells #[.int .i64 (a + b), .int .i64 (a - b), .int .i64 (a * b), .int .i64 (-a)] 2) (Blk_lt HB5.out)).trans HB5.out)
    have HP6 := Lib.hid ((heap_alloc_old W5 (.cells #[.int .i64 (a + b), .int .i64 (a - b), .int .i64 (a * b), .int .i64 (-a)] 2) (Blk_lt HQa5.out)).trans HQa5.out)
    have HX6 := Lib.hid (HX5.out.alloc (.cells #[.int .i64 (a + b), .int .i64 (a - b), .int .i64 (a * b), .int .i64 (-a)] 2))
    clear HA5 HB5 HQa5 HX5
    go_wp2_with (first | (with_reducible refine at_load ?_; refine wpList_load_cells rfl 31 _ rfl w2.heap.size 0 rfl Tryd.aggEx Tryd.sizeEx (cs := [.int .i64 1, .int .i64 2, .bool false, .int .i64 a, .string ByteArray.empty, .string ByteArray.empty, .string ByteArray.empty, .slice none 0 0, .slice none 0 0, .string ByteArray.empty, .slice none 0 0, .slice none 0 0]) rfl (cells_of_row HA6.out) ?_) | (with_reducible refine at_load ?_; refine wpList_load_cells rfl 31 _ rfl w3.heap.size 0 rfl Tryd.aggEx Tryd.sizeEx (cs := [.int .i64 1, .int .i64 2, .bool false, .int .i64 b, .string ByteArray.empty, .string ByteArray.empty, .string ByteArray.empty, .slice none 0 0, .slice none 0 0, .string ByteArray.empty, .slice none 0 0, .slice none 0 0]) rfl (cells_of_row HB6.out) ?_))
    obtain ⟨w6, hW⟩ : ∃ W, W = W5.alloc (.cells #[.int .i64 (a + b), .int .i64 (a - b), .int .i64 (a * b), .int .i64 (-a)] 2) := ⟨_, rfl⟩
    rw [← hW] at HA6 HB6 HP6 HX6 ⊢
    have Hsz := Lib.hid (show w6.heap.size = W5.heap.size + 1 by rw [hW]; simp)
    clear hW
    have HS6 := Lib.hid (HS.out.ext HX6.out)
    obtain ⟨tl, htl⟩ : ∃ t, decide (a < b) = t := ⟨_, rfl⟩
    obtain ⟨tm, htm⟩ : ∃ t, decide (a ≤ b) = t := ⟨_, rfl⟩
    have hI := Lib.hid (show I64 a from by unfold I64; omega)
    have hJ := Lib.hid (show I64 b from by unfold I64; omega)
    clear hmu hr0 hr1
    obtain ⟨x7, hW⟩ : ∃ W, W = w6.alloc (.cells #[.int .i64 1, .int .i64 2, .bool false, .int .i64 a, .string ByteArray.empty, .string ByteArray.empty, .string ByteArray.empty, .slice none 0 0, .slice none 0 0, .string ByteArray.empty, .slice none 0 0, .slice none 0 0, .int .i64 1, .int .i64 2, .bool false, .int .i64 b, .string ByteArray.empty, .string ByteArray.empty, .string ByteArray.empty, .slice none 0 0, .slice none 0 0, .string ByteArray.empty, .slice none 0 0, .slice none 0 0] 31) := ⟨_, rfl⟩
    have HR := Lib.hid (show x7.heap[W5.heap.size + 1]? = some (.cells #[.int .i64 1, .int .i64 2, .bool false, .int .i64 a, .string ByteArray.empty, .string ByteArray.empty, .string ByteArray.empty, .slice none 0 0, .slice none 0 0, .string ByteArray.empty, .slice none 0 0, .slice none 0 0, .int .i64 1, .int .i64 2, .bool false, .int .i64 b, .string ByteArray.empty, .string ByteArray.empty, .string ByteArray.empty, .slice none 0 0, .slice none 0 0, .string ByteArray.empty, .slice none 0 0, .slice none 0 0] 31 (0, 0)) by rw [hW, ← Hsz.out]; exact heap_alloc_new _ _)
    have hxx : Ext w6 x7 := by rw [hW]; exact (Ext.refl _).alloc _
    rw [← hW]
    clear hW
    have hk : expR.RowsAt (fun b => b < x7.heap.size) x7 [.lit (.whole a), .lit (.whole b)] (.slice (some ⟨W5.heap.size + 1, 0, none⟩) 2 2) := kids_at (xs := [.int .i64 1, .int .i64 2, .bool false, .int .i64 a, .string ByteArray.empty, .string ByteArray.empty, .string ByteArray.empty, .slice none 0 0, .slice none 0 0, .string ByteArray.empty, .slice none 0 0, .slice none 0 0, .int .i64 1, .int .i64 2, .bool false, .int .i64 b, .string ByteArray.empty, .string ByteArray.empty, .string ByteArray.empty, .slice none 0 0, .slice none 0 0, .string ByteArray.empty, .slice none 0 0, .slice none 0 0]) HR.out (flat_cons (cs := [.int .i64 1, .int .i64 2, .bool false, .int .i64 a, .string ByteArray.empty, .string ByteArray.empty, .string ByteArray.empty, .slice none 0 0, .slice none 0 0, .string ByteArray.empty, .slice none 0 0, .slice none 0 0]) (lit_at (whole_at _ _ a (show I64 a by unfold I64; omega))) (flat_cons (cs := [.int .i64 1, .int .i64 2, .bool false, .int .i64 b, .string ByteArray.empty, .string ByteArray.empty, .string ByteArray.empty, .slice none 0 0, .slice none 0 0, .string ByteArray.empty, .slice none 0 0, .slice none 0 0]) (lit_at (whole_at _ _ b (show I64 b by unfold I64; omega))) flat_nil)) (by rw [LIM_eq]; simp) rfl (by simp) (by rw [maxLen_eq]; omega)
    have hc := evalN_ok (.of 9 [.lit (.whole a), .lit (.whole b)]) (.truth tl, 0) x7 (opC 9 (.slice (some ⟨W5.heap.size + 1, 0, none⟩) 2 2)) (by rw [two_nums _ _ _ _ _ (by omega), two_less, htl]; rfl) (by rw [Exp.of_dep]; simp [Exp.deps, Exp.lit_dep]) (Exp.of_lits (by omega) (by intro x hx; simp at hx; rcases hx with rfl | rfl <;> exact whole_lits _)) (of_num (by simp [Num6]) (by intro x hx; simp at hx; rcases hx with rfl | rfl <;> exact lit_num _)) (of_at (by unfold I64; omega) hk) (HS6.out.ext hxx)
    refine hc.mono ?_
    rintro e7 w7 ⟨cv, rfl, hv, hx7⟩
    obtain ⟨zA7, zc7, zB7, zd7, rfl⟩ := hv.opened
    have hxx := (hxx.trans hx7).alloc (.cells #[.int .i64 1, .bool tl, .int .i64 0, .string ByteArray.empty, .string ByteArray.empty, .string ByteArray.empty, .slice zA7 0 zc7, .slice zB7 0 zd7] 28)
    have HA7 := Lib.hid ((hxx.block _ (Blk_lt HA6.out)).trans HA6.out)
    have HB7 := Lib.hid ((hxx.block _ (Blk_lt HB6.out)).trans HB6.out)
    have HP7 := Lib.hid ((hxx.block _ (Blk_lt HP6.out)).trans HP6.out)
    have HX7 := Lib.hid (HX6.out.trans hxx)
    have HS7 := Lib.hid (HS6.out.ext hxx)
    have HL7 := Lib.hid (heap_alloc_new w7 (.cells #[.int .i64 1, .bool tl, .int .i64 0, .string ByteArray.empty, .string ByteArray.empty, .string ByteArray.empty, .slice zA7 0 zc7, .slice zB7 0 zd7] 28))
    clear hk hc hv hx7 HR hxx Hsz HX6 HS6 HA6 HB6 HP6
    go_wp2_with (first | (with_reducible refine at_load ?_; refine wpList_load_cells rfl 31 _ rfl w2.heap.size 0 rfl Tryd.aggEx Tryd.sizeEx (cs := [.int .i64 1, .int .i64 2, .bool false, .int .i64 a, .string ByteArray.empty, .string ByteArray.empty, .string ByteArray.empty, .slice none 0 0, .slice none 0 0, .string ByteArray.empty, .slice none 0 0, .slice none 0 0]) rfl (cells_of_row HA7.out) ?_) | (with_reducible refine at_load ?_; refine wpList_load_cells rfl 31 _ rfl w3.heap.size 0 rfl Tryd.aggEx Tryd.sizeEx (cs := [.int .i64 1, .int .i64 2, .bool false, .int .i64 b, .string ByteArray.empty, .string ByteArray.empty, .string ByteArray.empty, .slice none 0 0, .slice none 0 0, .string ByteArray.empty, .slice none 0 0, .slice none 0 0]) rfl (cells_of_row HB7.out) ?_))
    obtain ⟨w7', hW⟩ : ∃ W, W = w7.alloc (.cells #[.int .i64 1, .bool tl, .int .i64 0, .string ByteArray.empty, .string ByteArray.empty, .string ByteArray.empty, .slice zA7 0 zc7, .slice zB7 0 zd7] 28) := ⟨_, rfl⟩
    rw [← hW] at HA7 HB7 HP7 HL7 HX7 HS7 ⊢
    have Hsz := Lib.hid (show w7'.heap.size = w7.heap.size + 1 by rw [hW]; simp)
    clear hW
    obtain ⟨x8, hW⟩ : ∃ W, W = w7'.alloc (.cells #[.int .i64 1, .int .i64 2, .bool false, .int .i64 a, .string ByteArray.empty, .string ByteArray.empty, .string ByteArray.empty, .slice none 0 0, .slice none 0 0, .string ByteArray.empty, .slice none 0 0, .slice none 0 0, .int .i64 1, .int .i64 2, .bool false, .int .i64 b, .string ByteArray.empty, .string ByteArray.empty, .string ByteArray.empty, .slice none 0 0, .slice none 0 0, .string ByteArray.empty, .slice none 0 0, .slice none 0 0] 31) := ⟨_, rfl⟩
    have HR := Lib.hid (show x8.heap[w7.heap.size + 1]? = some (.cells #[.int .i64 1, .int .i64 2, .bool false, .int .i64 a, .string ByteArray.empty, .string ByteArray.empty, .string ByteArray.empty, .slice none 0 0, .slice none 0 0, .string ByteArray.empty, .slice none 0 0, .slice none 0 0, .int .i64 1, .int .i64 2, .bool false, .int .i64 b, .string ByteArray.empty, .string ByteArray.empty, .string ByteArray.empty, .slice none 0 0, .slice none 0 0, .string ByteArray.empty, .slice none 0 0, .slice none 0 0] 31 (0, 0)) by rw [hW, ← Hsz.out]; exact heap_alloc_new _ _)
    have hxx : Ext w7' x8 := by rw [hW]; exact (Ext.refl _).alloc _
    rw [← hW]
    clear hW
    have hk : expR.RowsAt (fun b => b < x8.heap.size) x8 [.lit (.whole a), .lit (.whole b)] (.slice (some ⟨w7.heap.size + 1, 0, none⟩) 2 2) := kids_at (xs := [.int .i64 1, .int .i64 2, .bool false, .int .i64 a, .string ByteArray.empty, .string ByteArray.empty, .string ByteArray.empty, .slice none 0 0, .slice none 0 0, .string ByteArray.empty, .slice none 0 0, .slice none 0 0, .int .i64 1, .int .i64 2, .bool false, .int .i64 b, .string ByteArray.empty, .string ByteArray.empty, .string ByteArray.empty, .slice none 0 0, .slice none 0 0, .string ByteArray.empty, .slice none 0 0, .slice none 0 0]) HR.out (flat_cons (cs := [.int .i64 1, .int .i64 2, .bool false, .int .i64 a, .string ByteArray.empty, .string ByteArray.empty, .string ByteArray.empty, .slice none 0 0, .slice none 0 0, .string ByteArray.empty, .slice none 0 0, .slice none 0 0]) (lit_at (whole_at _ _ a (show I64 a by unfold I64; omega))) (flat_cons (cs := [.int .i64 1, .int .i64 2, .bool false, .int .i64 b, .string ByteArray.empty, .string ByteArray.empty, .string ByteArray.empty, .slice none 0 0, .slice none 0 0, .string ByteArray.empty, .slice none 0 0, .slice none 0 0]) (lit_at (whole_at _ _ b (show I64 b by unfold I64; omega))) flat_nil)) (by rw [LIM_eq]; simp) rfl (by simp) (by rw [maxLen_eq]; omega)
    have hc := evalN_ok (.of 10 [.lit (.whole a), .lit (.whole b)]) (.truth tm, 0) x8 (opC 10 (.slice (some ⟨w7.heap.size + 1, 0, none⟩) 2 2)) (by rw [two_nums _ _ _ _ _ (by omega), two_le, htm]; rfl) (by rw [Exp.of_dep]; simp [Exp.deps, Exp.lit_dep]) (Exp.of_lits (by omega) (by intro x hx; simp at hx; rcases hx with rfl | rfl <;> exact whole_lits _)) (of_num (by simp [Num6]) (by intro x hx; simp at hx; rcases hx with rfl | rfl <;> exact lit_num _)) (of_at (by unfold I64; omega) hk) (HS7.out.ext hxx)
    refine hc.mono ?_
    rintro e8 w8 ⟨cv, rfl, hv, hx8⟩
    obtain ⟨zA8, zc8, zB8, zd8, rfl⟩ := hv.opened
    have hxx := (hxx.trans hx8).alloc (.cells #[.int .i64 1, .bool tm, .int .i64 0, .string ByteArray.empty, .string ByteArray.empty, .string ByteArray.empty, .slice zA8 0 zc8, .slice zB8 0 zd8] 28)
    have HA8 := Lib.hid ((hxx.block _ (Blk_lt HA7.out)).trans HA7.out)
    have HB8 := Lib.hid ((hxx.block _ (Blk_lt HB7.out)).trans HB7.out)
    have HP8 := Lib.hid ((hxx.block _ (Blk_lt HP7.out)).trans HP7.out)
    have HL8 := Lib.hid ((hxx.block _ (Blk_lt HL7.out)).trans HL7.out)
    have HX8 := Lib.hid (HX7.out.trans hxx)
    have HS8 := Lib.hid (HS7.out.ext hxx)
    have HM8 := Lib.hid (heap_alloc_new w8 (.cells #[.int .i64 1, .bool tm, .int .i64 0, .string ByteArray.empty, .string ByteArray.empty, .string ByteArray.empty, .slice zA8 0 zc8, .slice zB8 0 zd8] 28))
    clear hk hc hv hx8 HR hxx Hsz HX7 HS7 HA7 HB7 HP7 HL7
    go_wp2_with fail
    refine (lit_ok 2 false 9223372036854775807 ByteArray.empty ByteArray.empty ByteArray.empty none 0 0 none 0 0 _).mono ?_
    rintro e10 w10 ⟨rfl, hx10⟩
    have hxx := hx10.alloc (.cells #[.int .i64 1, .int .i64 2, .bool false, .int .i64 9223372036854775807, .string ByteArray.empty, .string ByteArray.empty, .string ByteArray.empty, .slice none 0 0, .slice none 0 0, .string ByteArray.empty, .slice none 0 0, .slice none 0 0] 31)
    have HP9 := Lib.hid ((hxx.block _ (Blk_lt HP8.out)).trans HP8.out)
    have HL9 := Lib.hid ((hxx.block _ (Blk_lt HL8.out)).trans HL8.out)
    have HM9 := Lib.hid ((hxx.block _ (Blk_lt HM8.out)).trans HM8.out)
    have HX9 := Lib.hid (HX8.out.trans hxx)
    have HS9 := Lib.hid (HS8.out.ext hxx)
    have HG9 := Lib.hid (heap_alloc_new w10 (.cells #[.int .i64 1, .int .i64 2, .bool false, .int .i64 9223372036854775807, .string ByteArray.empty, .string ByteArray.empty, .string ByteArray.empty, .slice none 0 0, .slice none 0 0, .string ByteArray.empty, .slice none 0 0, .slice none 0 0] 31))
    clear hx10 hxx HP8 HL8 HM8 HX8 HS8 HA8 HB8
    go_wp2_with fail
    obtain ⟨w11, hW⟩ : ∃ W, W = w10.alloc (.cells #[.int .i64 1, .int .i64 2, .bool false, .int .i64 9223372036854775807, .string ByteArray.empty, .string ByteArray.empty, .string ByteArray.empty, .slice none 0 0, .slice none 0 0, .string ByteArray.empty, .slice none 0 0, .slice none 0 0] 31) := ⟨_, rfl⟩
    rw [← hW] at HP9 HL9 HM9 HX9 HS9 HG9 ⊢
    clear hW
    refine region_askV (fun b => b < w11.heap.size) w11.heap.size 6 13 100 93 101 102 19 rfl (SumV w11 [.int .i64 1, .int .i64 2, .bool false, .int .i64 9223372036854775807, .string ByteArray.empty, .string ByteArray.empty, .string ByteArray.empty, .slice none 0 0, .slice none 0 0, .string ByteArray.empty, .slice none 0 0, .slice none 0 0] [.int .i64 1, .int .i64 2, .bool false, .int .i64 1, .string ByteArray.empty, .string ByteArray.empty, .string ByteArray.empty, .slice none 0 0, .slice none 0 0, .string ByteArray.empty, .slice none 0 0, .slice none 0 0]) (.zero, 14) (by kernel_rfl) (by kernel_rfl) (by kernel_rfl) (fun _ h => h) (Nat.le_refl _) (fun i v W W' _ h _ k => h.ext i v W W' k) (fun i v W g cur row _ h _ _ hc => h.row i v W hc)
      ⟨_, _, _, _, _, _, _, rfl, rfl, rfl, rfl, rfl, rfl, rfl, rfl, rfl, rfl, rfl, rfl, rfl⟩ ⟨by kernel_rfl, by kernel_rfl, by kernel_rfl, by kernel_rfl, by kernel_rfl⟩ ⟨by kernel_rfl, by kernel_rfl, by kernel_rfl, by kernel_rfl, by kernel_rfl, by kernel_rfl⟩ (fun i o hi ho W5 c hx hold hf Q K hK => ?_) (fun o ho W5 c hx hold hf => ?_) (fun xs W12 z cv g2 hlen hx hV hp hg hrow hz hat he => ?_)
    · rcases (by omega : i = 0 ∨ i = 1 ∨ i = 2 ∨ i = 3 ∨ i = 4 ∨ i = 5) with rfl | rfl | rfl | rfl | rfl | rfl <;> obtain rfl := Option.some.inj ho
      · exact wp_known (exec_load_cells 31 _ rfl w10.heap.size 0 (hold 18 (by kernel_rfl)) Tryd.aggEx Tryd.sizeEx (cs := [.int .i64 1, .int .i64 2, .bool false, .int .i64 9223372036854775807, .string ByteArray.empty, .string ByteArray.empty, .string ByteArray.empty, .slice none 0 0, .slice none 0 0, .string ByteArray.empty, .slice none 0 0, .slice none 0 0]) rfl (cells_of_row ((hx.block _ (Blk_lt HG9.out)).trans HG9.out))) hK
      · exact wp_known (exec_bldX rfl (by simp only [List.map_toArray, List.map_cons, List.map_nil]; rfl) (Tryd.bldV 1 W5)) hK
      · refine wp_enters (Φ := fun v _ => v = .agg ([.int .i64 1, .int .i64 2, .bool false, .int .i64 1, .string ByteArray.empty, .string ByteArray.empty, .string ByteArray.empty, .slice none 0 0, .slice none 0 0, .string ByteArray.empty, .slice none 0 0, .slice none 0 0] : List Value).toArray) (exec_call Tryd.func6 rfl rfl rfl (map_one (hf 1 95 (by omega) (by kernel_rfl) (by kernel_rfl)))) ((lit_ok 2 false 1 ByteArray.empty ByteArray.empty ByteArray.empty none 0 0 none 0 0 W5).mono fun e W3 ⟨he, hx3⟩ => ⟨_, he, hx3, rfl⟩) hK
      · have k1 : c.eval (.tmp 94) = .agg ([.int .i64 1, .int .i64 2, .bool false, .int .i64 9223372036854775807, .string ByteArray.empty, .string ByteArray.empty, .string ByteArray.empty, .slice none 0 0, .slice none 0 0, .string ByteArray.empty, .slice none 0 0, .slice none 0 0] : List Value).toArray := (hf 0 94 (by omega) (by kernel_rfl) (by kernel_rfl))
        have k2 : c.eval (.tmp 96) = .agg ([.int .i64 1, .int .i64 2, .bool false, .int .i64 1, .string ByteArray.empty, .string ByteArray.empty, .string ByteArray.empty, .slice none 0 0, .slice none 0 0, .string ByteArray.empty, .slice none 0 0, .slice none 0 0] : List Value).toArray := (hf 2 96 (by omega) (by kernel_rfl) (by kernel_rfl))
        exact wp_leaves (Φ := SumV w11 [.int .i64 1, .int .i64 2, .bool false, .int .i64 9223372036854775807, .string ByteArray.empty, .string ByteArray.empty, .string ByteArray.empty, .slice none 0 0, .slice none 0 0, .string ByteArray.empty, .slice none 0 0, .slice none 0 0] [.int .i64 1, .int .i64 2, .bool false, .int .i64 1, .string ByteArray.empty, .string ByteArray.empty, .string ByteArray.empty, .slice none 0 0, .slice none 0 0, .string ByteArray.empty, .slice none 0 0, .slice none 0 0] 3) (exec_buildN _ _ _ rfl (by simp only [List.map_toArray, List.map_cons, List.map_nil, k1, k2]) (Tryd.rowN2 [.int .i64 1, .int .i64 2, .bool false, .int .i64 9223372036854775807, .string ByteArray.empty, .string ByteArray.empty, .string ByteArray.empty, .slice none 0 0, .slice none 0 0, .string ByteArray.empty, .slice none 0 0, .slice none 0 0] [.int .i64 1, .int .i64 2, .bool false, .int .i64 1, .string ByteArray.empty, .string ByteArray.empty, .string ByteArray.empty, .slice none 0 0, .slice none 0 0, .string ByteArray.empty, .slice none 0 0, .slice none 0 0] rfl rfl W5)) ((Ext.refl W5).alloc _) ⟨_, rfl, hx.size, heap_alloc_new _ _⟩ hK
      · obtain ⟨A, k2, h1, h2⟩ := (hf 3 97 (by omega) (by kernel_rfl) (by kernel_rfl))
        exact wp_leaves (Φ := SumV w11 [.int .i64 1, .int .i64 2, .bool false, .int .i64 9223372036854775807, .string ByteArray.empty, .string ByteArray.empty, .string ByteArray.empty, .slice none 0 0, .slice none 0 0, .string ByteArray.empty, .slice none 0 0, .slice none 0 0] [.int .i64 1, .int .i64 2, .bool false, .int .i64 1, .string ByteArray.empty, .string ByteArray.empty, .string ByteArray.empty, .slice none 0 0, .slice none 0 0, .string ByteArray.empty, .slice none 0 0, .slice none 0 0] 4) (exec_bldX rfl (by simp only [List.map_toArray, List.map_cons, List.map_nil, k2]; rfl) (Tryd.bldN 11 _ _ _ W5)) (Ext.refl W5) ⟨A, rfl, h1, h2⟩ hK
      · exact wp_known (exec_bldX rfl (by simp only [List.map_toArray, List.map_nil]) (Tryd.bldQ W5)) hK
    · obtain rfl := Option.some.inj ho
      obtain ⟨A, k1, hr1, hr2⟩ := (hf 4 98 (by omega) (by kernel_rfl) (by kernel_rfl))
      have hk : expR.RowsAt (fun b => b < W5.heap.size) W5 [.lit (.whole 9223372036854775807), .lit (.whole 1)] (.slice (some ⟨A, 0, none⟩) 2 2) := kids_at (xs := [.int .i64 1, .int .i64 2, .bool false, .int .i64 9223372036854775807, .string ByteArray.empty, .string ByteArray.empty, .string ByteArray.empty, .slice none 0 0, .slice none 0 0, .string ByteArray.empty, .slice none 0 0, .slice none 0 0] ++ [.int .i64 1, .int .i64 2, .bool false, .int .i64 1, .string ByteArray.empty, .string ByteArray.empty, .string ByteArray.empty, .slice none 0 0, .slice none 0 0, .string ByteArray.empty, .slice none 0 0, .slice none 0 0]) hr2 (flat_cons (cs := [.int .i64 1, .int .i64 2, .bool false, .int .i64 9223372036854775807, .string ByteArray.empty, .string ByteArray.empty, .string ByteArray.empty, .slice none 0 0, .slice none 0 0, .string ByteArray.empty, .slice none 0 0, .slice none 0 0]) (lit_at (whole_at _ _ 9223372036854775807 (by unfold I64; omega))) (flat_cons (cs := [.int .i64 1, .int .i64 2, .bool false, .int .i64 1, .string ByteArray.empty, .string ByteArray.empty, .string ByteArray.empty, .slice none 0 0, .slice none 0 0, .string ByteArray.empty, .slice none 0 0, .slice none 0 0]) (lit_at (whole_at _ _ 1 (by unfold I64; omega))) flat_nil)) (by rw [LIM_eq]; simp) rfl (by simp) (by rw [maxLen_eq]; omega)
      refine ⟨_, _, exec_call Tryd.func7 rfl rfl rfl (map_three k1 (hf 5 99 (by omega) (by kernel_rfl) (by kernel_rfl)) rfl), (evalN_ok (.of 11 [.lit (.whole 9223372036854775807), .lit (.whole 1)]) (.zero, 14) W5 (opC 11 (.slice (some ⟨A, 0, none⟩) 2 2)) (by rw [two_nums _ _ _ _ _ (by omega), two_add, fitI_out (by omega)]; rfl) (by rw [Exp.of_dep]; simp [Exp.deps, Exp.lit_dep]) (Exp.of_lits (by omega) (by intro x hx; simp at hx; rcases hx with rfl | rfl <;> exact whole_lits _)) (of_num (by simp [Num6]) (by intro x hx; simp at hx; rcases hx with rfl | rfl <;> exact lit_num _)) (of_at (by unfold I64; omega) hk) (HS9.out.ext hx)).mono fun e w' h => refAns_fresh h⟩
    · obtain ⟨u0, u1, u2, u3, u4, u5, u6, u7, u8, u9, v0, v1, v2, rfl⟩ := list13n hlen
      have hp : v0 = .pointer (some ⟨g2, 0, none⟩) := hp
      have he : v2 = .int .i64 14 := he
      subst hp he
      simp only [List.take, List.drop, putAll, Act.put, List.setIfInBounds_toArray, List.set_cons_zero, List.set_cons_succ]
      have HPe := Lib.hid ((hx.block _ (Blk_lt HP9.out)).trans HP9.out)
      have HLe := Lib.hid ((hx.block _ (Blk_lt HL9.out)).trans HL9.out)
      have HMe := Lib.hid ((hx.block _ (Blk_lt HM9.out)).trans HM9.out)
      have HXe := Lib.hid (HX9.out.trans hx)
      have f0 : W12.cell? ⟨g, 0, none⟩ = some (.int .i64 2) := cell_of_row _ _ 0 _ _ _ HPe.out
      have f1 : W12.cell? ⟨g, 2, none⟩ = some (.int .i64 (-a)) := cell_of_row _ _ 2 _ _ _ HPe.out
      have f2 : W12.cell? ⟨w7.heap.size, 1, none⟩ = some (.bool tl) := cell_of_row _ _ 1 _ _ _ HLe.out
      have f3 : W12.cell? ⟨w8.heap.size, 1, none⟩ = some (.bool tm) := cell_of_row _ _ 1 _ _ _ HMe.out
      clear hV hlen hx hp hg hrow hz hat he HP9 HL9 HM9 HX9 HS9 HG9
      have q1 : (tl == tl) = true := by simp
      have q2 : (tm == tm) = true := by simp
      go_wp2_with fail
      go_ret
      exact ⟨rfl, HXe.out⟩
theorem i32_in {n : Int} (h : (Lit.int .i32 n).wf = true) : -2147483648 ≤ n ∧ n ≤ 2147483647 := by simpa [Lit.wf, IntKind.min, IntKind.max, IntKind.signed, IntKind.bits] using h
theorem evalNumbers_walk (a b op : Int) (ha : -2147483648 ≤ a ∧ a ≤ 2147483647) (hb : -2147483648 ≤ b ∧ b ≤ 2147483647) (W : World) (hs : Sums W) :
    Calls Tryd.prog 3 #[.int .i32 a, .int .i32 b, .int .i64 op] W fun e W' => e = .returned (.bool true) ∧ Ext W W' := by
  rcases (by omega : op % 4 = 0 ∨ op % 4 = 1 ∨ op % 4 = 2 ∨ op % 4 = 3) with h | h | h | h
  · exact evalNumbers_0 a b op ha hb h W hs
  · exact evalNumbers_1 a b op ha hb h W hs
  · exact evalNumbers_2 a b op ha hb h W hs
  · exact evalNumbers_3 a b op ha hb h W hs
end Go.Proofs.YtebfoimbdljbmaaDoor
