/-
  One step of the program's evaluation: what does not ask for all of its kids. The conditions: what is handed in lies in memory as it should.
-/
import Derived.Test.YtebfoimbdljbmaaGreatDoorEvTQ
import Derived.Test.YtebfoimbdljbmaaGreatDoorEvOQ
import Derived.Test.YtebfoimbdljbmaaGreatDoorEvQ
import Derived.Test.YtebfoimbdljbmaaGreatDoorGc
import Derived.Test.YtebfoimbdljbmaaGreatDoorGb
namespace Go.Proofs.YtebfoimbdljbmaaGreatDoor
open Go.RowKit
theorem za6 {P : Program} {ops : Array Oper} {rest : List Oper} {Q : Exit → Act → World → Prop} {a : Act} {w : World} {d : Option Nat} {ty : TypeId} {x y : Operand} {T : TypeId} {p : String} {f : Array Edge} (h : wpList P ops Q ({ dst := d, op := .store ty x y, type := T, pos := p, after := f, guard := none } :: rest) a w) : wpList P ops Q ({ dst := d, op := .store ty x y, type := T, pos := p, after := f, guard := none } :: rest) a w := h
theorem zae {P : Program} {ops : Array Oper} {rest : List Oper} {Q : Exit → Act → World → Prop} {a : Act} {w : World} {d : Option Nat} {ty : TypeId} {x : Operand} {T : TypeId} {p : String} {f : Array Edge} (h : wpList P ops Q ({ dst := d, op := .load ty x, type := T, pos := p, after := f, guard := none } :: rest) a w) : wpList P ops Q ({ dst := d, op := .load ty x, type := T, pos := p, after := f, guard := none } :: rest) a w := h
end Go.Proofs.YtebfoimbdljbmaaGreatDoor
