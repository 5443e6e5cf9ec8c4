/-
  What the statements' own expressions come to: numbers, sets of numbers, choices. No program in sight. The conditions: none (lemmas).
-/
import Derived.Test.YtebfoimbdljbmaaGreatDoorEvQ
import Derived.Test.YtebfoimbdljbmaaGreatDoorEvHQ
import Derived.Test.YtebfoimbdljbmaaGreatDoorGf
namespace Go.Proofs.YtebfoimbdljbmaaGreatDoor
open Go.RowKit
def Exp.lit (v : Val) : Exp := .mk 1 v ByteArray.empty [] []
end Go.Proofs.YtebfoimbdljbmaaGreatDoor

/-
  Expressions that the statements make: literals, operators over a row of kids. The conditions: none (lemmas).
-/
namespace Go.Proofs.YtebfoimbdljbmaaGreatDoor
open Go.RowKit
def E0 : ByteArray := ByteArray.empty
def reqZ : Req := ⟨(E0, E0), (E0, E0), (E0, E0), .zero⟩
def reqC : List Value := .string ByteArray.empty :: .string ByteArray.empty :: .string ByteArray.empty :: .string ByteArray.empty :: .string ByteArray.empty :: .string ByteArray.empty :: zeroCells
theorem reqZ_at (S : Nat → Prop) (w : World) : Req.At S w reqZ reqC :=
 ⟨zeroCells, rfl, ⟨⟨by rw [zat]; decide, by rw [zat]; decide⟩, ⟨by rw [zat]; decide, by rw [zat]; decide⟩, ⟨by rw [zat]; decide, by rw [zat]; decide⟩⟩, Val.zero_at _ _⟩
end Go.Proofs.YtebfoimbdljbmaaGreatDoor
