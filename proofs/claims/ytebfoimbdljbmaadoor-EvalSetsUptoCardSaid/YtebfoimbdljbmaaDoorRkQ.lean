/-
  Statements whose order Go leaves open, in which a value and an error are asked of a function and laid down: words for what each operation leaves. The conditions: none (definitions and lemmas).
-/
import Derived.Test.YtebfoimbdljbmaaDoorKnownQ
import Derived.Test.YtebfoimbdljbmaaDoorEvEQ
namespace Go.Proofs.YtebfoimbdljbmaaDoor
open Go.RowKit

/-- a value and an error, told as the document's functions do: beside an error any value may stand; it lies in S, or in memory made since -/
def TupV (S : Nat → Prop) (lo : Nat) (r : Rs) (v : Value) (W : World) : Prop := (∀ b, S b → b < W.heap.size) ∧ ∃ (z : Val) (cs : List Value), v = .tuple #[.agg cs.toArray, .int .i64 r.2] ∧ (r.2 = 0 → z = r.1) ∧ Val.At (fun b => S b ∨ Fresh lo W b) W z cs
def AggV (S : Nat → Prop) (lo : Nat) (r : Rs) (v : Value) (W : World) : Prop := (∀ b, S b → b < W.heap.size) ∧ ∃ (z : Val) (cs : List Value), v = .agg cs.toArray ∧ (r.2 = 0 → z = r.1) ∧ Val.At (fun b => S b ∨ Fresh lo W b) W z cs
def RefAns (S : Nat → Prop) (r : Rs) (w : World) (e : Ending) (w' : World) : Prop := ∃ (z : Val) (cs : List Value), e = .returned (.tuple #[.agg cs.toArray, .int .i64 r.2]) ∧ (r.2 = 0 → z = r.1) ∧ Val.At (fun b => S b ∨ Fresh w.heap.size w' b) w' z cs ∧ Ext w w'
def NewV (T : TypeId) (cs : List Value) (v : Value) (W : World) : Prop := ∃ g, v = .pointer (some ⟨g, 0, none⟩) ∧ W.heap[g]? = some (.cells cs.toArray T (0, 0))
def RowV (n cap : Nat) (T : TypeId) (cs : List Value) (v : Value) (W : World) : Prop := ∃ g, v = .slice (some ⟨g, 0, none⟩) n cap ∧ W.heap[g]? = some (.cells cs.toArray T (0, 0))
theorem zone_ext {S : Nat → Prop} {lo : Nat} {w w' : World} {z : Val} {cs : List Value} (hS : ∀ b, S b → b < w.heap.size) (h : Val.At (fun b => S b ∨ Fresh lo w b) w z cs) (k : Ext w w') : Val.At (fun b => S b ∨ Fresh lo w' b) w' z cs :=
  Val.At.mono (fun _ hb => hb.imp id fun h => ⟨h.1, Nat.lt_of_lt_of_le h.2 k.size⟩) _ _ (Val.At.alike (Alike.of_ext k fun b hb => hb.elim (hS b) fun h => h.2) _ _ h)
theorem TupV.ext {S : Nat → Prop} {lo : Nat} {r : Rs} {v : Value} {W W' : World} (h : TupV S lo r v W) (k : Ext W W') : TupV S lo r v W' := by
  obtain ⟨hS, z, cs, e, h1, h2⟩ := h
  exact ⟨fun b hb => Nat.lt_of_lt_of_le (hS b hb) k.size, z, cs, e, h1, zone_ext hS h2 k⟩
theorem AggV.ext {S : Nat → Prop} {lo : Nat} {r : Rs} {v : Value} {W W' : World} (h : AggV S lo r v W) (k : Ext W W') : AggV S lo r v W' := by
  obtain ⟨hS, z, cs, e, h1, h2⟩ := h
  exact ⟨fun b hb => Nat.lt_of_lt_of_le (hS b hb) k.size, z, cs, e, h1, zone_ext hS h2 k⟩
theorem NewV.ext {T : TypeId} {cs : List Value} {v : Value} {W W' : World} (h : NewV T cs v W) (k : Ext W W') : NewV T cs v W' := by
  obtain ⟨g, e, h1⟩ := h
  exact ⟨g, e, (k.block _ (Blk_lt h1)).trans h1⟩
theorem RowV.ext {n cap : Nat} {T : TypeId} {cs : List Value} {v : Value} {W W' : World} (h : RowV n cap T cs v W) (k : Ext W W') : RowV n cap T cs v W' := by
  obtain ⟨g, e, h1⟩ := h
  exact ⟨g, e, (k.block _ (Blk_lt h1)).trans h1⟩
theorem wp_known {P : Program} {o : Oper} {a : Act} {w : World} {K : Act → World → Prop} {Q : Exit → Act → World → Prop} {v0 : Value} (hrun : (execOp a.eval o).run P w = .ok (.value v0) w) (hk : ∀ v w', Ext w w' → v = v0 → K (a.put o.dst v) w') : o.wp P a w K Q :=
  wp_leaves (Φ := fun v _ => v = v0) hrun (Ext.refl w) rfl hk
theorem exec_buildN {P : Program} {o : Oper} {a : Act} {w w' : World} (ty : TypeId) (n : Nat) (parts : Array (Nat × Operand)) (ho : o.op = .buildSlice ty n parts) {ys : Array (Nat × Value)} {v' : Value} (hx : parts.map (fun p => (p.1, a.eval p.2)) = ys) (hf : (Instr.buildSlice ty n ys).run P w = .ok v' w') : (execOp a.eval o).run P w = .ok (.value v') w' := by
  unfold execOp
  simp only [ho, hx]
  simp [hf]
end Go.Proofs.YtebfoimbdljbmaaDoor
