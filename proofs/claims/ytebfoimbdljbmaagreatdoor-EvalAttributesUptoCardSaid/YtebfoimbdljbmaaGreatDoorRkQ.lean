/-
  Statements whose order Go leaves open, in which a value and an error are asked of a function and laid down: words for what each operation leaves. The conditions: none (definitions and lemmas).
-/
import Derived.Test.YtebfoimbdljbmaaGreatDoorKnownQ
import Derived.Test.YtebfoimbdljbmaaGreatDoorEvEQ
namespace Go.Proofs.YtebfoimbdljbmaaGreatDoor
open Go.RowKit
def TupV (S : Nat → Prop) (lo : Nat) (r : Rs) (v : Value) (W : World) : Prop := (∀ b, S b → b < W.heap.size) ∧ ∃ (z : Val) (cs : List Value), v = .tuple #[.agg cs.toArray, .int .i64 r.2] ∧ (r.2 = 0 → z = r.1) ∧ Val.At (fun b => S b ∨ Fresh lo W b) W z cs
def AggV (S : Nat → Prop) (lo : Nat) (r : Rs) (v : Value) (W : World) : Prop := (∀ b, S b → b < W.heap.size) ∧ ∃ (z : Val) (cs : List Value), v = .agg cs.toArray ∧ (r.2 = 0 → z = r.1) ∧ Val.At (fun b => S b ∨ Fresh lo W b) W z cs
def RefAns (S : Nat → Prop) (r : Rs) (w : World) (e : Ending) (w' : World) : Prop := ∃ (z : Val) (cs : List Value), e = .returned (.tuple #[.agg cs.toArray, .int .i64 r.2]) ∧ (r.2 = 0 → z = r.1) ∧ Val.At (fun b => S b ∨ Fresh w.heap.size w' b) w' z cs ∧ Ext w w'
def NewV (T : TypeId) (cs : List Value) (v : Value) (W : World) : Prop := ∃ g, v = .pointer (some ⟨g, 0, none⟩) ∧ W.heap[g]? = some (.cells cs.toArray T (0, 0))
def RowV (n cap : Nat) (T : TypeId) (cs : List Value) (v : Value) (W : World) : Prop := ∃ g, v = .slice (some ⟨g, 0, none⟩) n cap ∧ W.heap[g]? = some (.cells cs.toArray T (0, 0))
theorem zone_ext {S : Nat → Prop} {lo : Nat} {w w' : World} {z : Val} {cs : List Value} (hS : ∀ b, S b → b < w.heap.size) (h : Val.At (fun b => S b ∨ Fresh lo w b) w z cs) (k : Ext w w') : Val.At (fun b => S b ∨ Fresh lo w' b) w' z cs :=
 Val.At.mono (fun _ hb => hb.imp id fun h => ⟨h.1, Nat.lt_of_lt_of_le h.2 k.size⟩) _ _ (Val.At.alike (Alike.of_ext k fun b hb => hb.elim (hS b) fun h => h.2) _ _ h)
theorem TupV.ext {S : Nat → Prop} {lo : Nat} {r : Rs} {v : Value} {W W' : World} (h : TupV S lo r v W) (k : Ext W W') : TupV S lo r v W' := by
 obtain ⟨hS, z, cs, e, h1, h2⟩ := h
 exact ⟨fun b hb => Nat.lt_of_lt_of_le (hS b hb) k.size, z, cs, e, h1, zone_ext hS h2 k⟩
theorem AggV.ext {S : Nat → Prop} {lo : Nat} {r : Rs} {v : Value} {W W' : World} (h : AggV S lo r v W) (k : Ext W W') : AggV S lo r v W' := by
 obtain ⟨hS, z, cs, e, h1, h2⟩ := h
 exact ⟨fun b hb => Nat.lt_of_lt_of_le (hS b hb) k.size, z, cs, e, h1, zone_ext hS h2 k⟩
theorem NewV.ext {T : TypeId} {cs : List Value} {v : Value} {W W' : World} (h : NewV T cs v W) (k : Ext W W') : NewV T cs v W' := by
 obtain ⟨g, e, h1⟩ := h
 exact ⟨g, e, (k.block _ (zaf h1)).trans h1⟩
theorem RowV.ext {n cap : Nat} {T : TypeId} {cs : List Value} {v : Value} {W W' : World} (h : RowV n cap T cs v W) (k : Ext W W') : RowV n cap T cs v W' := by
 obtain ⟨g, e, h1⟩ := h
 exact ⟨g, e, (k.block _ (zaf h1)).trans h1⟩
theorem wp_first {P : Program} {o : Oper} {a : Act} {w : World} {K : Act → World → Prop} {Q : Exit → Act → World → Prop} {S : Nat → Prop} {lo : Nat} {r : Rs} {x : Operand} (ho : o.op = .extract x 0) (hx : TupV S lo r (a.eval x) w) (hk : ∀ v w', Ext w w' → AggV S lo r v w' → K (a.put o.dst v) w') : o.wp P a w K Q := by
 obtain ⟨hS, z, cs, e, h1, h2⟩ := hx
 exact wp_leaves (Φ := AggV S lo r) (zbn ho e rfl) (Ext.refl w) ⟨hS, z, cs, rfl, h1, h2⟩ hk
theorem wp_second {P : Program} {o : Oper} {a : Act} {w : World} {K : Act → World → Prop} {Q : Exit → Act → World → Prop} {S : Nat → Prop} {lo : Nat} {r : Rs} {x : Operand} (ho : o.op = .extract x 1) (hx : TupV S lo r (a.eval x) w) (hk : ∀ v w', Ext w w' → v = .int .i64 r.2 → K (a.put o.dst v) w') : o.wp P a w K Q := by
 obtain ⟨hS, z, cs, e, h1, h2⟩ := hx
 exact wp_leaves (Φ := fun v _ => v = .int .i64 r.2) (zbn ho e rfl) (Ext.refl w) rfl hk
theorem wp_asks {P : Program} {o : Oper} {a : Act} {w : World} {K : Act → World → Prop} {Q : Exit → Act → World → Prop} {S : Nat → Prop} {lo : Nat} {r : Rs} {f : FuncId} {args : Array Value} (hrun : (execOp a.eval o).run P w = .ok (.enter f args) w) (hS : ∀ b, S b → b < w.heap.size) (hlo : lo ≤ w.heap.size) (hc : Calls P f args w (RefAns S r w)) (hk : ∀ v w', Ext w w' → TupV S lo r v w' → K (a.put o.dst v) w') : o.wp P a w K Q :=
 wp_enters (Φ := TupV S lo r) hrun (hc.mono fun _ _ ⟨z, cs, he, h1, h2, hx⟩ => ⟨_, he, hx, fun b hb => Nat.lt_of_lt_of_le (hS b hb) hx.size, z, cs, rfl, h1, Val.At.mono (fun _ hb => hb.imp id fun h => ⟨Nat.le_trans hlo h.1, h.2⟩) _ _ h2⟩) hk
end Go.Proofs.YtebfoimbdljbmaaGreatDoor
