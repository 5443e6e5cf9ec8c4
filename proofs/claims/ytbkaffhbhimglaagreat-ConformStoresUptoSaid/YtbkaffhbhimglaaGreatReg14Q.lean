/-
  What the operations of a drawing region of ConformRecords do (binary operations, conversions, an index by a uint16, a struct). No function of the program. The conditions: none (lemmas).
-/
import Derived.Test.YtbkaffhbhimglaaGreatConRQ
namespace Go.Proofs.YtbkaffhbhimglaaGreat
open Go.RowKit
theorem wp_bslice {P : Program} {o : Oper} {a : Act} {w w' : World} {Q : Exit → Act → World → Prop} {K : Act → World → Prop} {T : TypeId} {n : Nat} {xs : Array (Nat × Operand)} {ys : Array (Nat × Value)} {v : Value} (ho : o.op = .buildSlice T n xs) (hx : xs.map (fun p => (p.1, a.eval p.2)) = ys)
  (hr : (Instr.buildSlice T n ys).run P w = .ok v w') (hK : K (a.put o.dst v) w') : o.wp P a w K Q := by
 unfold Oper.wp execOp
 simp only [ho, hx]
 simp [hr]
 exact hK
theorem exec_bld {P : Program} {o : Oper} {a : Act} {w : World} {T : TypeId} {xs : Array (Nat × Operand)} {ys : Array (Nat × Value)} {v : Value} (ho : o.op = .build T xs) (hx : xs.map (fun p => (p.1, a.eval p.2)) = ys)
  (hr : (Instr.build T ys).run P w = .ok v w) : (execOp a.eval o).run P w = .ok (.value v) w := by
 unfold execOp
 simp only [ho, hx]
 simp [hr]
def ints4 : Array Value := #[.int .i64 3, .int .i64 4, .int .i64 5, .int .i64 1]
def Stg14 (wz : World) (Tv : Value) (B k : Nat) (zs ent : List Value) : List Value → World → Prop
 | [], V => V = wz.drew
 | [a], V => a = .slice (some ⟨wz.heap.size, 0, none⟩) 4 4 ∧ V = wz.drew.alloc (.cells ints4 (Tryz.prog.elem 109))
 | [a, b], V => a = .slice (some ⟨wz.heap.size, 0, none⟩) 4 4 ∧ b = .slice (some ⟨wz.heap.size + 1, 0, none⟩) 1 1 ∧ V = (wz.drew.alloc (.cells ints4 (Tryz.prog.elem 109))).alloc (.cells ent.toArray 85)
 | [a, _, r], V => a = .slice (some ⟨wz.heap.size, 0, none⟩) 4 4 ∧ V.ownsRow B 85 6 r (k + 1) (zs ++ ent) ∧ GrownBy ((wz.drew.alloc (.cells ints4 (Tryz.prog.elem 109))).alloc (.cells ent.toArray 85)) V Tv.ownBlock
 | _, _ => False
theorem zdu (w : World) : Ext w w.drew := ⟨⟨rfl, rfl, rfl, Nat.le_refl _, fun _ _ => rfl⟩, Nat.le_succ _⟩
theorem Stg14.grown {wz : World} {Tv : Value} {B k : Nat} {zs ent vs : List Value} {V : World} (h : Stg14 wz Tv B k zs ent vs V) : GrownBy wz V Tv.ownBlock := by
 match vs, h with
 | [], h => subst h; exact .of_ext _ (zdu wz)
 | [_], h => rw [h.2]; exact .of_ext _ ((zdu wz).alloc _)
 | [_, _], h => rw [h.2.2]; exact .of_ext _ (((zdu wz).alloc _).alloc _)
 | [_, _, _], h => exact (GrownBy.of_ext _ (((zdu wz).alloc _).alloc _)).trans h.2.2
theorem Stg14.int {wz : World} {Tv : Value} {B k : Nat} {zs ent vs : List Value} {V : World} (h : Stg14 wz Tv B k zs ent vs V) (h0 : 0 < vs.length) (hT : ∀ b, Tv.ownBlock = some b → b < wz.heap.size) : vs.getD 0 undef = .slice (some ⟨wz.heap.size, 0, none⟩) 4 4 ∧ V.heap[wz.heap.size]? = some (.cells ints4 (Tryz.prog.elem 109) (0, 0)) := by
 have e1 : (wz.drew.alloc (.cells ints4 (Tryz.prog.elem 109))).heap[wz.heap.size]? = some (.cells ints4 (Tryz.prog.elem 109) (0, 0)) := by
  show (wz.heap.push _)[wz.heap.size]? = _
  simp
 have hs : wz.heap.size < (wz.drew.alloc (.cells ints4 (Tryz.prog.elem 109))).heap.size := zad e1
 have e2 := fun o => (((Ext.refl (wz.drew.alloc (.cells ints4 (Tryz.prog.elem 109)))).alloc o).block _ hs).trans e1
 match vs, h, h0 with
 | [_], h, _ => rw [h.2]; exact ⟨h.1, e1⟩
 | [_, _], h, _ => rw [h.2.2]; exact ⟨h.1, e2 _⟩
 | [_, _, _], h, _ => exact ⟨h.1, (h.2.2.block _ (zad (e2 _)) (fun e => by have := hT _ e.symm; omega)).trans (e2 _)⟩
end Go.Proofs.YtbkaffhbhimglaaGreat
