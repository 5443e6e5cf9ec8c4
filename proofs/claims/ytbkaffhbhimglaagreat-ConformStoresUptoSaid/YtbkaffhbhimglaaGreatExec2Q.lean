/-
  Single operations: binary ones, conversions, structs. The conditions: none (lemmas).
-/
import Derived.Test.YtbkaffhbhimglaaGreatKnownQ
namespace Go.Proofs.YtbkaffhbhimglaaGreat
open Go.RowKit
theorem exec_binX {P : Program} {o : Oper} {a : Act} {w : World} {op : BinOp} {T T' : TypeId} {x y : Operand} {u v r : Value} (ho : o.op = .binOp op T x y T') (hx : a.eval x = u) (hy : a.eval y = v) (hr : (do eqGuard op T x y u v; binOp op T u v : Sem Value).run P w = .ok r w) : (execOp a.eval o).run P w = .ok (.value r) w := by
 unfold execOp
 simp only [ho, hx, hy]
 simp only [Sem.run_bind] at hr ⊢
 cases hX : Sem.run P (eqGuard op T x y u v) w with
 | ok b w1 =>
  rw [hX] at hr
  simp only [Result.andThen_ok] at hr ⊢
  rw [hr]; rfl
 | _ => rw [hX] at hr; cases hr
end Go.Proofs.YtbkaffhbhimglaaGreat
