/-
  Single operations: binary ones, conversions, structs. The conditions: none (lemmas).
-/
import Derived.Test.YtebfoimbdljbmaaGreatDoorKnownQ
namespace Go.Proofs.YtebfoimbdljbmaaGreatDoor
open Go.RowKit
theorem exec_binX {P : Program} {o : Oper} {a : Act} {w : World} {op : BinOp} {T T' : TypeId} {x y : Operand} {u v r : Value} (ho : o.op = .binOp op T x y T') (hx : a.eval x = u) (hy : a.eval y = v) (hr : (do eqGuard op T x y u v; binOp op T u v : Sem Value).run P w = .ok r w) : (execOp a.eval o).run P w = .ok (.value r) w := by
 unfold execOp
 simp only [ho, hx, hy]
 simp only [Sem.run_bind] at hr ⊢
 cases hX : Sem.run P (eqGuard op T x y u v) w with
 | ok b w1 =>
  rw [hX] at hr
  simp only [Result.andThen_ok] at hr ⊢
  rw [hr]; rfl
 | _ => rw [hX] at hr; cases hr
theorem exec_bldX {P : Program} {o : Oper} {a : Act} {w : World} {T : TypeId} {xs : Array (Nat × Operand)} {ys : Array (Nat × Value)} {v : Value} (ho : o.op = .build T xs) (hx : xs.map (fun p => (p.1, a.eval p.2)) = ys)
  (hr : (Instr.build T ys).run P w = .ok v w) : (execOp a.eval o).run P w = .ok (.value v) w := by
 unfold execOp
 simp only [ho, hx]
 simp [hr]
theorem i64_and255 (n : Int) : bits .and .i64 n 255 = n % 256 := by
 have h3 : (BitVec.ofInt 64 255).toNat = 2 ^ 8 - 1 := by decide
 have key : (BitVec.ofInt 64 n &&& BitVec.ofInt 64 255).toNat = (n % ((2 ^ 64 : Nat) : Int)).toNat % 2 ^ 8 := by
  rw [BitVec.toNat_and, BitVec.toNat_ofInt, h3, Nat.and_two_pow_sub_one_eq_mod]
 show IntKind.i64.wrap ((BitVec.ofInt 64 n &&& BitVec.ofInt 64 255).toNat : Nat) = n % 256
 rw [key, IntKind.wrap_i64]
 omega
end Go.Proofs.YtebfoimbdljbmaaGreatDoor
