/-
  What the program's evaluation leans on: truths, numbers, how many kids, how deep. The conditions: what is handed in lies in memory as it should.
-/
import Derived.Test.YtebfoimbdljbmaaGreatDoorExpMQ
import Derived.Test.YtebfoimbdljbmaaGreatDoorEvQ
import Derived.Test.YtebfoimbdljbmaaGreatDoorAnyFQ
namespace Go.Proofs.YtebfoimbdljbmaaGreatDoor
open Go.RowKit
theorem heapA2 (w : World) (o0 o1 : Obj) : ((w.alloc o0).alloc o1).heap[w.heap.size]? = some o0 ∧ ((w.alloc o0).alloc o1).heap[w.heap.size + 1]? = some o1 ∧ ((w.alloc o0).alloc o1).heap.size = w.heap.size + 2 ∧ Ext w ((w.alloc o0).alloc o1) := by
 refine ⟨?_, ?_, by simp, ((Ext.refl w).alloc _).alloc _⟩ <;> (simp only [World.alloc, Array.getElem?_push, Array.size_push]; (repeat rw [if_neg (by omega)]); simp)
theorem zax (w : World) (o0 o1 o2 : Obj) : (((w.alloc o0).alloc o1).alloc o2).heap[w.heap.size]? = some o0 ∧ (((w.alloc o0).alloc o1).alloc o2).heap[w.heap.size + 1]? = some o1 ∧ (((w.alloc o0).alloc o1).alloc o2).heap[w.heap.size + 2]? = some o2 ∧ (((w.alloc o0).alloc o1).alloc o2).heap.size = w.heap.size + 3 ∧ Ext w (((w.alloc o0).alloc o1).alloc o2) := by
 refine ⟨?_, ?_, ?_, by simp, (((Ext.refl w).alloc _).alloc _).alloc _⟩ <;> (simp only [World.alloc, Array.getElem?_push, Array.size_push]; (repeat rw [if_neg (by omega)]); simp)
theorem Val.At.setRow {T : Nat → Prop} {W : World} {x : Val} {cs : List Value} (h : Val.At T W x cs) {g : Nat} (hT : ∀ b, T b → b < W.heap.size ∧ b ≠ g) (rows : Array Value) : Val.At T (W.setRow g rows) x cs :=
 Val.At.alike (fun b hb => (GrownBy.setRow W g rows).block b (hT b hb).1 (fun e => by injection e with e; exact (hT b hb).2 e)) _ _ h
def InX (w : World) (e : Exp) (cs : List Value) : Prop := Exp.At (fun b => b < w.heap.size) w e cs
theorem InX.ext {w w' : World} {e : Exp} {cs : List Value} (h : InX w e cs) (k : Ext w w') : InX w' e cs := Exp.At.mono (fun _ hb => Nat.lt_of_lt_of_le hb k.size) _ _ (Exp.At.alike (Alike.of_ext k fun _ h => h) _ _ h)
def InR (w : World) (q : Req) (cs : List Value) : Prop := Req.At (fun b => b < w.heap.size) w q cs
theorem InR.ext {w w' : World} {q : Req} {cs : List Value} (h : InR w q cs) (k : Ext w w') : InR w' q cs := (Req.At.alike h (Alike.of_ext k fun _ h => h)).mono fun _ hb => Nat.lt_of_lt_of_le hb k.size
def Sums (w : World) : Prop := ∃ m, w.cell? ⟨0, 0, none⟩ = some (.map (some m)) ∧ 0 < w.heap.size ∧ m < w.heap.size ∧ ∀ w', w'.heap[m]? = w.heap[m]? →
 (Instr.lookup 142 (.map (some m)) (.int .i64 11) false).run Tryz.prog w' = .ok (.func (.func 250) #[] #[]) w' ∧
 (Instr.lookup 142 (.map (some m)) (.int .i64 12) false).run Tryz.prog w' = .ok (.func (.func 251) #[] #[]) w' ∧
 (Instr.lookup 142 (.map (some m)) (.int .i64 13) false).run Tryz.prog w' = .ok (.func (.func 252) #[] #[]) w'
theorem Sums.ext {w w' : World} (h : Sums w) (k : Ext w w') : Sums w' := by
 obtain ⟨m, h1, h2, h3, h4⟩ := h
 exact ⟨m, k.cell h1, Nat.lt_of_lt_of_le h2 k.size, Nat.lt_of_lt_of_le h3 k.size, fun w2 hw => h4 w2 (hw.trans (k.block m h3))⟩
def Rk (q : Req) (c : List Ent) (w : World) (g : Nat) : Prop := ∃ qc pv, qc.length = 14 ∧ w.heap[g]? = some (.cells (qc ++ [pv]).toArray 80 (0, 0)) ∧ InR w q qc ∧ StoreV w pv c ∧ q.ctx.dep ≤ 1000000 ∧ Sums w
theorem Rk.ext {q : Req} {c : List Ent} {w w' : World} {g : Nat} (h : Rk q c w g) (k : Ext w w') : Rk q c w' g := by
 obtain ⟨qc, pv, h0, h1, h2, h3, h4, h5⟩ := h
 exact ⟨qc, pv, h0, (k.block g (zaf h1)).trans h1, h2.ext k, h3.ext k, h4, h5.ext k⟩
end Go.Proofs.YtebfoimbdljbmaaGreatDoor
