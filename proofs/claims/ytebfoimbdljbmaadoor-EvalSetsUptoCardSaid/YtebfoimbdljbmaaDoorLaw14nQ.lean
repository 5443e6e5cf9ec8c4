/-
  EvalNumbers: what the statement's own function answers. The conditions: the table of operators lies as it is laid at the start.
-/
import Derived.Test.YtebfoimbdljbmaaDoorGl
import Derived.Test.YtebfoimbdljbmaaDoorAskVQ
import Derived.Test.YtebfoimbdljbmaaDoorExec2Q
namespace Go.Proofs.YtebfoimbdljbmaaDoor
open Go.RowKit

theorem refAns_fresh {S : Nat → Prop} {z : Val} {er : Int} {w : World} {e : Ending} {w' : World} (h : ValErr z er w e w') : RefAns S (z, er) w e w' := by
  obtain ⟨cs, he, hv, hx⟩ := h
  exact ⟨z, cs, he, fun _ => rfl, Val.At.mono (fun b hb => Or.inr hb) _ _ hv, hx⟩
theorem row_keep {W : World} {A g : Nat} {c cur row : Array Value} {T U : TypeId} (hTU : T ≠ U) (h : W.heap[A]? = some (.cells c T (0, 0))) (hg : W.heap[g]? = some (.cells cur U (0, 0))) : (W.setRow g row).heap[A]? = some (.cells c T (0, 0)) :=
  ((GrownBy.setRow W g row).block A (Blk_lt h) (fun e => by injection e with e; subst e; rw [h] at hg; injection hg with hg; injection hg with _ h2 _; exact hTU h2)).trans h
theorem whole_lits (n : Int) : (Exp.lit (.whole n)).lits 1000000 := Exp.lit_lits (by simp [Val.whole, Val.dep])
theorem Tryd.rowN2 (xs ys : List Value) (hx : xs.length = 12) (hy : ys.length = 12) (w : World) : (Instr.buildSlice 29 2 #[(0, .agg xs.toArray), (1, .agg ys.toArray)]).run Tryd.prog w = .ok (.slice (some ⟨w.heap.size, 0, none⟩) 2 2) (w.alloc (.cells (xs ++ ys).toArray 31)) := by
  match xs, ys, hx, hy with
  | [a0, a1, a2, a3, a4, a5, a6, a7, a8, a9, a10, a11], [b0, b1, b2, b3, b4, b5, b6, b7, b8, b9, b10, b11], _, _ =>
    simp [Instr.buildSlice, go_sem]
theorem Tryd.bldN (op : Int) (A : Option Addr) (n c : Nat) (w : World) : (Instr.build 31 #[(0, .int .i64 op), (3, .slice A n c)]).run Tryd.prog w = .ok (.agg ([.int .i64 op, .int .i64 0, .bool false, .int .i64 0, .string ByteArray.empty, .string ByteArray.empty, .string ByteArray.empty, .slice none 0 0, .slice none 0 0, .string ByteArray.empty, .slice A n c, .slice none 0 0] : List Value).toArray) w := by
  simp [Instr.build, go_sem]; rfl
theorem Tryd.bldQ (w : World) : (Instr.build 38 #[]).run Tryd.prog w = .ok (.agg ([.string ByteArray.empty, .string ByteArray.empty, .string ByteArray.empty, .string ByteArray.empty, .string ByteArray.empty, .string ByteArray.empty, .int .i64 0, .bool false, .int .i64 0, .string ByteArray.empty, .string ByteArray.empty, .string ByteArray.empty, .slice none 0 0, .slice none 0 0] : List Value).toArray) w := by
  simp [Instr.build, go_sem]; rfl
theorem Tryd.bldV (n : Int) (w : World) : (Instr.build 28 #[(0, .int .i64 2), (2, .int .i64 n)]).run Tryd.prog w = .ok (.agg ([.int .i64 2, .bool false, .int .i64 n, .string ByteArray.empty, .string ByteArray.empty, .string ByteArray.empty, .slice none 0 0, .slice none 0 0] : List Value).toArray) w := by
  simp [Instr.build, go_sem]; rfl
/-- what the first operations of the reckoning come to -/
def NumV (w0 : World) (k : Nat) (op : Int) (n : Nat) (xc yc : List Value) (i : Nat) (v : Value) (W : World) : Prop :=
  match i with
  | 0 => ∃ A, v = .slice (some ⟨A, 0, none⟩) 4 4 ∧ W.heap[A]? = some (.cells #[.int .i64 11, .int .i64 12, .int .i64 13, .int .i64 14] 3 (0, 0))
  | 1 => v = .int .i64 k
  | 2 => ∃ A, v = .pointer (some ⟨A, 0 + k * 1, none⟩) ∧ W.heap[A]? = some (.cells #[.int .i64 11, .int .i64 12, .int .i64 13, .int .i64 14] 3 (0, 0))
  | 3 => v = .int .i64 op
  | 4 => v = .agg xc.toArray
  | 5 => v = .agg yc.toArray
  | 6 => ∃ A, v = .slice (some ⟨A, 0, none⟩) 2 2 ∧ w0.heap.size ≤ A ∧ W.heap[A]? = some (.cells (xc ++ yc).toArray 31 (0, 0))
  | 7 => v = .int .i64 k
  | 8 => v = .int .i64 (2 - n)
  | 9 => v = .int .i64 n
  | 10 => ∃ A, v = .slice (some ⟨A, 0, none⟩) n 2 ∧ w0.heap.size ≤ A ∧ W.heap[A]? = some (.cells (xc ++ yc).toArray 31 (0, 0))
  | 11 => ∃ A, v = .agg ([.int .i64 op, .int .i64 0, .bool false, .int .i64 0, .string ByteArray.empty, .string ByteArray.empty, .string ByteArray.empty, .slice none 0 0, .slice none 0 0, .string ByteArray.empty, .slice (some ⟨A, 0, none⟩) n 2, .slice none 0 0] : List Value).toArray ∧ w0.heap.size ≤ A ∧ W.heap[A]? = some (.cells (xc ++ yc).toArray 31 (0, 0))
  | 12 => v = .agg ([.string ByteArray.empty, .string ByteArray.empty, .string ByteArray.empty, .string ByteArray.empty, .string ByteArray.empty, .string ByteArray.empty, .int .i64 0, .bool false, .int .i64 0, .string ByteArray.empty, .string ByteArray.empty, .string ByteArray.empty, .slice none 0 0, .slice none 0 0] : List Value).toArray
  | _ => False
def SumV (w0 : World) (xc yc : List Value) (i : Nat) (v : Value) (W : World) : Prop :=
  match i with
  | 0 => v = .agg xc.toArray
  | 1 => v = .agg ([.int .i64 2, .bool false, .int .i64 1, .string ByteArray.empty, .string ByteArray.empty, .string ByteArray.empty, .slice none 0 0, .slice none 0 0] : List Value).toArray
  | 2 => v = .agg yc.toArray
  | 3 => ∃ A, v = .slice (some ⟨A, 0, none⟩) 2 2 ∧ w0.heap.size ≤ A ∧ W.heap[A]? = some (.cells (xc ++ yc).toArray 31 (0, 0))
  | 4 => ∃ A, v = .agg ([.int .i64 11, .int .i64 0, .bool false, .int .i64 0, .string ByteArray.empty, .string ByteArray.empty, .string ByteArray.empty, .slice none 0 0, .slice none 0 0, .string ByteArray.empty, .slice (some ⟨A, 0, none⟩) 2 2, .slice none 0 0] : List Value).toArray ∧ w0.heap.size ≤ A ∧ W.heap[A]? = some (.cells (xc ++ yc).toArray 31 (0, 0))
  | 5 => v = .agg ([.string ByteArray.empty, .string ByteArray.empty, .string ByteArray.empty, .string ByteArray.empty, .string ByteArray.empty, .string ByteArray.empty, .int .i64 0, .bool false, .int .i64 0, .string ByteArray.empty, .string ByteArray.empty, .string ByteArray.empty, .slice none 0 0, .slice none 0 0] : List Value).toArray
  | _ => False
theorem NumV.ext {w0 : World} {k : Nat} {op : Int} {n : Nat} {xc yc : List Value} : ∀ (i : Nat) (v : Value) (W W' : World), NumV w0 k op n xc yc i v W → Ext W W' → NumV w0 k op n xc yc i v W'
  | 0, _, _, _, ⟨A, e, h2⟩, k => ⟨A, e, (k.block _ (Blk_lt h2)).trans h2⟩
  | 1, _, _, _, h, _ => h
  | 2, _, _, _, ⟨A, e, h2⟩, k => ⟨A, e, (k.block _ (Blk_lt h2)).trans h2⟩
  | 3, _, _, _, h, _ => h
  | 4, _, _, _, h, _ => h
  | 5, _, _, _, h, _ => h
  | 6, _, _, _, ⟨A, e, h1, h2⟩, k => ⟨A, e, h1, (k.block _ (Blk_lt h2)).trans h2⟩
  | 7, _, _, _, h, _ => h
  | 8, _, _, _, h, _ => h
  | 9, _, _, _, h, _ => h
  | 10, _, _, _, ⟨A, e, h1, h2⟩, k => ⟨A, e, h1, (k.block _ (Blk_lt h2)).trans h2⟩
  | 11, _, _, _, ⟨A, e, h1, h2⟩, k => ⟨A, e, h1, (k.block _ (Blk_lt h2)).trans h2⟩
  | 12, _, _, _, h, _ => h
  | _ + 13, _, _, _, h, _ => h
theorem NumV.row {w0 : World} {k : Nat} {op : Int} {n : Nat} {xc yc : List Value} {g : Nat} {cur row : Array Value} : ∀ (i : Nat) (v : Value) (W : World), NumV w0 k op n xc yc i v W → W.heap[g]? = some (.cells cur 28 (0, 0)) → NumV w0 k op n xc yc i v (W.setRow g row)
  | 0, _, _, ⟨A, e, h2⟩, k => ⟨A, e, row_keep (by decide) h2 k⟩
  | 1, _, _, h, _ => h
  | 2, _, _, ⟨A, e, h2⟩, k => ⟨A, e, row_keep (by decide) h2 k⟩
  | 3, _, _, h, _ => h
  | 4, _, _, h, _ => h
  | 5, _, _, h, _ => h
  | 6, _, _, ⟨A, e, h1, h2⟩, k => ⟨A, e, h1, row_keep (by decide) h2 k⟩
  | 7, _, _, h, _ => h
  | 8, _, _, h, _ => h
  | 9, _, _, h, _ => h
  | 10, _, _, ⟨A, e, h1, h2⟩, k => ⟨A, e, h1, row_keep (by decide) h2 k⟩
  | 11, _, _, ⟨A, e, h1, h2⟩, k => ⟨A, e, h1, row_keep (by decide) h2 k⟩
  | 12, _, _, h, _ => h
  | _ + 13, _, _, h, _ => h
theorem SumV.ext {w0 : World} {xc yc : List Value} : ∀ (i : Nat) (v : Value) (W W' : World), SumV w0 xc yc i v W → Ext W W' → SumV w0 xc yc i v W'
  | 0, _, _, _, h, _ => h
  | 1, _, _, _, h, _ => h
  | 2, _, _, _, h, _ => h
  | 3, _, _, _, ⟨A, e, h1, h2⟩, k => ⟨A, e, h1, (k.block _ (Blk_lt h2)).trans h2⟩
  | 4, _, _, _, ⟨A, e, h1, h2⟩, k => ⟨A, e, h1, (k.block _ (Blk_lt h2)).trans h2⟩
  | 5, _, _, _, h, _ => h
  | _ + 6, _, _, _, h, _ => h
theorem SumV.row {w0 : World} {xc yc : List Value} {g : Nat} {cur row : Array Value} : ∀ (i : Nat) (v : Value) (W : World), SumV w0 xc yc i v W → W.heap[g]? = some (.cells cur 28 (0, 0)) → SumV w0 xc yc i v (W.setRow g row)
  | 0, _, _, h, _ => h
  | 1, _, _, h, _ => h
  | 2, _, _, h, _ => h
  | 3, _, _, ⟨A, e, h1, h2⟩, k => ⟨A, e, h1, row_keep (by decide) h2 k⟩
  | 4, _, _, ⟨A, e, h1, h2⟩, k => ⟨A, e, h1, row_keep (by decide) h2 k⟩
  | 5, _, _, h, _ => h
  | _ + 6, _, _, h, _ => h
end Go.Proofs.YtebfoimbdljbmaaDoor
