/-
  Single operations: binary ones, conversions, structs. The conditions: none (lemmas).
-/
import Derived.Test.YtebfoimbdljbmaaDoorKnownQ
namespace Go.Proofs.YtebfoimbdljbmaaDoor
open Go.RowKit
theorem exec_cvX {P : Program} {o : Oper} {a : Act} {w : World} {T T' : TypeId} {x : Operand} {u r : Value} (ho : o.op = .convert T T' x) (hx : a.eval x = u) (hr : (convert T T' u).run P w = .ok r w) : (execOp a.eval o).run P w = .ok (.value r) w := by
  unfold execOp
  simp only [ho, hx]
  simp [hr]
theorem exec_bldX {P : Program} {o : Oper} {a : Act} {w : World} {T : TypeId} {xs : Array (Nat × Operand)} {ys : Array (Nat × Value)} {v : Value} (ho : o.op = .build T xs) (hx : xs.map (fun p => (p.1, a.eval p.2)) = ys)
    (hr : (Instr.build T ys).run P w = .ok v w) : (execOp a.eval o).run P w = .ok (.value v) w := by
  unfold execOp
  simp only [ho, hx]
  simp [hr]
end Go.Proofs.YtebfoimbdljbmaaDoor
