/-
  A block's cells, from the block. No function of the program. The conditions: none (a lemma).
-/
import Derived.Test.YtebfoimbdljbmaaGreatDoorGd
import Derived.Test.YtebfoimbdljbmaaGreatDoorGc
namespace Go.Proofs.YtebfoimbdljbmaaGreatDoor
open Go.RowKit
theorem zad {w : World} {g : Nat} {cs : List Value} {T : TypeId} (h : w.heap[g]? = some (.cells cs.toArray T (0, 0))) : CellsAt w g 0 cs := fun j v hj => by
 rw [cell_of_row _ _ _ _ _ _ h]
 simpa using hj
end Go.Proofs.YtebfoimbdljbmaaGreatDoor

/-
  A request in memory. The conditions: none (definitions and lemmas).
-/
namespace Go.Proofs.YtebfoimbdljbmaaGreatDoor
open Go.RowKit
structure Req where
 pr : Uid
 act : Uid
 res : Uid
 ctx : Val
def Req.At (S : Nat → Prop) (w : World) (q : Req) (cs : List Value) : Prop := ∃ acs, cs = .string q.pr.1 :: .string q.pr.2 :: .string q.act.1 :: .string q.act.2 :: .string q.res.1 :: .string q.res.2 :: acs ∧ (zaw q.pr ∧ zaw q.act ∧ zaw q.res) ∧ Val.At S w q.ctx acs
theorem Req.At.alike {S : Nat → Prop} {w w' : World} {q : Req} {cs : List Value} (h : Req.At S w q cs) (k : Alike S w w') : Req.At S w' q cs := by
 obtain ⟨acs, e, h1, h2⟩ := h
 exact ⟨acs, e, h1, h2.alike k⟩
theorem Req.At.mono {S S' : Nat → Prop} {w : World} {q : Req} {cs : List Value} (h : Req.At S w q cs) (k : ∀ b, S b → S' b) : Req.At S' w q cs := by
 obtain ⟨acs, e, h1, h2⟩ := h
 exact ⟨acs, e, h1, h2.mono k⟩
theorem Req.At.shape {S : Nat → Prop} {w : World} {q : Req} {cs : List Value} (h : Req.At S w q cs) : ∃ k b n t ut ui A l c A2 l2 c2, cs = [.string q.pr.1, .string q.pr.2, .string q.act.1, .string q.act.2, .string q.res.1, .string q.res.2, .int .i64 k, .bool b, .int .i64 n, .string t, .string ut, .string ui, .slice A l c, .slice A2 l2 c2] ∧
  Val.At S w q.ctx [.int .i64 k, .bool b, .int .i64 n, .string t, .string ut, .string ui, .slice A l c, .slice A2 l2 c2] := by
 obtain ⟨acs, rfl, _, h⟩ := h
 obtain ⟨k, b, n, t, ut, ui, A, l, c, A2, l2, c2, rfl⟩ := h.shape
 exact ⟨_, _, _, _, _, _, _, _, _, _, _, _, rfl, h⟩
theorem cells_part {w : World} {g : Nat} {pre cs : List Value} {T : TypeId} (h : w.heap[g]? = some (.cells (pre ++ cs).toArray T (0, 0))) : CellsAt w g pre.length cs := fun j v hj => by
 have h1 := zad h (pre.length + j) v (by rw [List.getElem?_append_right (by omega), Nat.add_sub_cancel_left]; exact hj)
 rwa [Nat.zero_add] at h1
end Go.Proofs.YtebfoimbdljbmaaGreatDoor
