/-
  What asks for two values, as the program's evaluation has it. The conditions: what is handed in lies in memory as it should.
-/
import Derived.Test.YtebfoimbdljbmaaGreatDoorEvWQ
import Derived.Shelf.Bits.Mul64
namespace Go.Proofs.YtebfoimbdljbmaaGreatDoor
open Go.RowKit
theorem wpList_load_lone {P : Program} {ops : Array Oper} {rest : List Oper} {o : Oper} {a : Act} {w : World} {Q : Exit → Act → World → Prop} (hgd : o.guard = none) (ty : TypeId) (x : Operand) (ho : o.op = .load ty x)
  (b off : Nat) (hx : a.eval x = .pointer (some ⟨b, off, none⟩)) (hA : ∀ w, (isAgg ty).run P w = .ok false w) (v : Value) (h : w.cell? ⟨b, off, none⟩ = some v) (hk : wpList P ops Q rest (a.put o.dst v) w) : wpList P ops Q (o :: rest) a w :=
 wpList_plain hgd fun K hK => by
  unfold Oper.wp execOp
  simp only [ho, hx, Instr.loadAt, Instr.sureAddr, loadVar, Sem.run_bind, Sem.run_pure, Result.andThen_ok, hA, Bool.false_eq_true, if_false, run_load, h]
  exact hK _ _ hk
end Go.Proofs.YtebfoimbdljbmaaGreatDoor
