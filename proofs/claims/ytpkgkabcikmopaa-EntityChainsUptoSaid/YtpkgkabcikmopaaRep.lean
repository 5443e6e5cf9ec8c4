/-
  Words for memory: which machine cells stand for which plain data, and what keeps them. No program in sight. The conditions: none (definitions and lemmas).
-/
import Derived.Test.YtpkgkabcikmopaaRows
import Derived.WalkKit
import Derived.WalkLawsBesides
import Derived.WalkSpells
import Derived.Lib.Hide
import Derived.Laws.Rows
import Derived.Laws.Cells
namespace Go.Proofs.Ytpkgkabcikmopaa
open Go.RowKit

/-- cells that lie from a place on -/
def CellsAt (w : World) (b o : Nat) (cs : List Value) : Prop := ∀ j v, cs[j]? = some v → w.cell? ⟨b, o + j, none⟩ = some v

/-- old memory stays; no draw is taken back -/
structure Ext (w w' : World) : Prop extends Below w.heap.size w w' where
  drawn : w.drawn ≤ w'.drawn

theorem Ext.refl (w : World) : Ext w w := ⟨Below.refl _ _, Nat.le_refl _⟩
theorem Ext.trans {a b c : World} (h : Ext a b) (k : Ext b c) : Ext a c := ⟨Below.trans h.toBelow (Below.mono k.toBelow h.size), Nat.le_trans h.drawn k.drawn⟩
theorem Ext.alloc {w w' : World} (h : Ext w w') (o : Obj) : Ext w (w'.alloc o) := ⟨Below.alloc h.toBelow h.size o, h.drawn⟩
theorem Ext.drewN {w w' : World} (h : Ext w w') (n : Nat) : Ext w (w'.drewN n) := ⟨⟨h.os, h.tape, h.output, h.size, h.block⟩, Nat.le_trans h.drawn (Nat.le_add_right _ _)⟩

theorem ask_drawn {α : Type} (k : Ask α) : ∀ w : World, w.drawn ≤ (w.ask k).2.drawn := by
  induction k with
  | done a => intro w; exact Nat.le_refl _
  | ask what range k ih =>
    intro w
    simp only [World.ask]
    split
    · exact ih _ _
    · exact Nat.le_trans (Nat.le_succ _) (ih _ { w with drawn := w.drawn + 1 })
theorem sys_drawn (w : World) (c : Sys) : w.drawn ≤ (w.sys c).2.drawn := by
  have h := ask_drawn (Kernel.perform c w.os) w
  unfold World.sys
  split
  · exact Nat.le_refl _
  · rename_i r os w1 _ he
    rw [he] at h; exact h
theorem farStore_drawn {P : Program} {w w' : World} {a : Addr} {v : Value} {t : Bool} {l : List Addr} (h : w.farStore P a v t = .ok (w', l)) : w.drawn ≤ w'.drawn := by
  unfold World.farStore at h
  split at h
  · split at h
    · rename_i r he
      injection h with h
      subst h
      unfold World.viewStore at he
      simp only [bind, Except.bind, pure, Except.pure] at he
      repeat' (split at he <;> try (cases he; done))
      all_goals (try (injection he with he; rw [Prod.mk.injEq] at he; rw [← he.1]; exact Nat.le_refl _))
    · cases h
  · cases h

/-- a run takes no draw back -/
theorem run_drawn {P : Program} {α : Type} (s : Sem α) : ∀ (w : World) (a : α) (w' : World), s.run P w = .ok a w' → w.drawn ≤ w'.drawn := by
  induction s with
  | pure a => intro w a' w' h; simp only [Sem.run] at h; cases h; exact Nat.le_refl _
  | load m a k ih => intro w a' w' h; simp only [Sem.run] at h; (repeat' split at h) <;> first | exact ih _ _ _ _ h | cases h
  | store m a v k ih =>
    intro w a' w' h
    cases v <;> simp only [Sem.run] at h <;> first
      | (cases h; done)
      | ((repeat' split at h) <;> first | (have := ih _ _ _ h; simpa [World.setCell] using this) | (rename_i he; have := ih _ _ _ h; exact Nat.le_trans (farStore_drawn he) this) | cases h)
  | new o k ih => intro w a' w' h; simp only [Sem.run] at h; exact ih w.heap.size { w with heap := w.heap.push o } a' w' h
  | shape r k ih => intro w a' w' h; simp only [Sem.run] at h; exact ih _ _ _ _ h
  | freeze a n k ih => intro w a' w' h; simp only [Sem.run] at h; have := ih _ _ _ h; unfold World.freeze at this; split at this <;> exact this
  | frozen a k ih => intro w a' w' h; simp only [Sem.run] at h; exact ih _ _ _ _ h
  | getObj r k ih => intro w a' w' h; simp only [Sem.run] at h; split at h <;> first | exact ih _ _ _ _ h | cases h
  | setObj r o k ih => intro w a' w' h; simp only [Sem.run] at h; split at h <;> first | exact ih { w with heap := w.heap.setIfInBounds r o } a' w' h | cases h
  | choose q k ih => intro w a' w' h; simp only [Sem.run] at h; split at h <;> first | exact ih _ _ _ _ h | exact Nat.le_trans (Nat.le_succ _) (ih _ { w with drawn := w.drawn + 1 } a' w' h)
  | sys c k ih => intro w a' w' h; simp only [Sem.run] at h; exact Nat.le_trans (sys_drawn w c) (ih _ _ _ _ h)
  | program k ih => intro w a' w' h; simp only [Sem.run] at h; exact ih _ _ _ _ h
  | mark m k ih => intro w a' w' h; simp only [Sem.run] at h; exact ih _ _ _ h
  | halt h => intro w a' w' h; simp only [Sem.run] at h; cases h

/-- two worlds alike at some blocks -/
def Alike (S : Nat → Prop) (w w' : World) : Prop := ∀ b, S b → w'.heap[b]? = w.heap[b]?

theorem Alike.of_ext {w w' : World} {S : Nat → Prop} (h : Ext w w') (hS : ∀ b, S b → b < w.heap.size) : Alike S w w' := fun b hb => h.block b (hS b hb)
theorem Alike.of_below {B : Nat} {w w' : World} {S : Nat → Prop} (h : Below B w w') (hS : ∀ b, S b → b < B) : Alike S w w' := fun b hb => h.block b (hS b hb)
theorem Alike.trans {S : Nat → Prop} {a b c : World} (h : Alike S a b) (k : Alike S b c) : Alike S a c := fun i hi => (k i hi).trans (h i hi)
theorem Alike.refl (S : Nat → Prop) (w : World) : Alike S w w := fun _ _ => rfl

theorem CellsAt.alike {S : Nat → Prop} {w w' : World} {b o : Nat} {cs : List Value} (h : CellsAt w b o cs) (hs : S b) (k : Alike S w w') : CellsAt w' b o cs :=
  fun j v hj => (World.cell?_of_block (w := w) (a := ⟨b, o + j, none⟩) (k b hs)).trans (h j v hj)

theorem CellsAt.alloc {w : World} {b o : Nat} {cs : List Value} (h : CellsAt w b o cs) (hb : b < w.heap.size) (x : Obj) : CellsAt (w.alloc x) b o cs :=
  fun j v hj => by rw [World.cell?_of_block (w := w) (a := ⟨b, o + j, none⟩) (Below.heap_alloc w x b hb)]; exact h j v hj
theorem CellsAt.drew {w : World} {b o : Nat} {cs : List Value} (h : CellsAt w b o cs) : CellsAt w.drew b o cs := h
theorem CellsAt.below {B : Nat} {w w' : World} {b o : Nat} {cs : List Value} (h : CellsAt w b o cs) (k : Below B w w') (hb : b < B) : CellsAt w' b o cs :=
  h.alike (S := fun x => x < B) hb (Alike.of_below k fun _ h => h)

/-- a value's plain data -/
inductive Val where
  | mk (kind : Int) (bo : Bool) (n : Int) (t ut ui : ByteArray) (items : List Val) (names : List ByteArray)

namespace Val
def kind : Val → Int | mk k _ _ _ _ _ _ _ => k
def bo : Val → Bool | mk _ b _ _ _ _ _ _ => b
def num : Val → Int | mk _ _ n _ _ _ _ _ => n
def text : Val → ByteArray | mk _ _ _ t _ _ _ _ => t
def ut : Val → ByteArray | mk _ _ _ _ t _ _ _ => t
def ui : Val → ByteArray | mk _ _ _ _ _ t _ _ => t
def items : Val → List Val | mk _ _ _ _ _ _ l _ => l
def names : Val → List ByteArray | mk _ _ _ _ _ _ _ l => l
end Val

def I64 (n : Int) : Prop := -9223372036854775808 ≤ n ∧ n ≤ 9223372036854775807

/-- rows: how long they may be -/
def LIM : Nat := 1073741824

/-- a slice of strings -/
def StrsAt (S : Nat → Prop) (w : World) (l : List ByteArray) (v : Value) : Prop :=
  ∃ A cap, v = .slice A l.length cap ∧ l.length ≤ LIM ∧ l.length ≤ cap ∧ cap ≤ maxLen ∧ (∀ s ∈ l, s.size ≤ maxLen) ∧
    (0 < l.length → ∃ b o, A = some ⟨b, o, none⟩ ∧ S b ∧ CellsAt w b o (l.map Value.string))

mutual
def Val.At (S : Nat → Prop) (w : World) : Val → List Value → Prop
  | .mk k bo n t ut ui items names, cs => ∃ A cap nv, cs = [.int .i64 k, .bool bo, .int .i64 n, .string t, .string ut, .string ui, .slice A items.length cap, nv] ∧
      (I64 k ∧ I64 n ∧ t.size ≤ maxLen ∧ ut.size ≤ maxLen ∧ ui.size ≤ maxLen) ∧ (items.length ≤ LIM ∧ items.length ≤ cap ∧ cap ≤ maxLen) ∧
      (0 < items.length → ∃ b o, A = some ⟨b, o, none⟩ ∧ S b ∧ Val.RowAt S w items b o) ∧ StrsAt S w names nv
def Val.RowAt (S : Nat → Prop) (w : World) : List Val → Nat → Nat → Prop
  | [], _, _ => True
  | v :: r, b, o => (∃ cs, cs.length = 8 ∧ CellsAt w b o cs ∧ Val.At S w v cs) ∧ Val.RowAt S w r b (o + 8)
end

theorem Val.At.length {S : Nat → Prop} {w : World} {v : Val} {cs : List Value} (h : Val.At S w v cs) : cs.length = 8 := by
  cases v; unfold Val.At at h; obtain ⟨A, cap, nv, rfl, _⟩ := h; rfl

theorem StrsAt.alike {S : Nat → Prop} {w w' : World} {l : List ByteArray} {v : Value} (h : StrsAt S w l v) (k : Alike S w w') : StrsAt S w' l v := by
  obtain ⟨A, cap, h1, h0, h2, h3, h4, h5⟩ := h
  exact ⟨A, cap, h1, h0, h2, h3, h4, fun hn => let ⟨b, o, e, hs, hc⟩ := h5 hn; ⟨b, o, e, hs, hc.alike hs k⟩⟩

theorem StrsAt.mono {S S' : Nat → Prop} {w : World} {l : List ByteArray} {v : Value} (h : StrsAt S w l v) (k : ∀ b, S b → S' b) : StrsAt S' w l v := by
  obtain ⟨A, cap, h1, h0, h2, h3, h4, h5⟩ := h
  exact ⟨A, cap, h1, h0, h2, h3, h4, fun hn => let ⟨b, o, e, hs, hc⟩ := h5 hn; ⟨b, o, e, k b hs, hc⟩⟩

mutual
theorem Val.At.alike {S : Nat → Prop} {w w' : World} (k : Alike S w w') : ∀ (v : Val) (cs : List Value), Val.At S w v cs → Val.At S w' v cs
  | .mk _ _ _ _ _ _ items names, cs, h => by
    unfold Val.At at h ⊢
    obtain ⟨A, cap, nv, e, h1, h2, h3, h4⟩ := h
    exact ⟨A, cap, nv, e, h1, h2, fun hn => let ⟨b, o, e, hs, hc⟩ := h3 hn; ⟨b, o, e, hs, Val.RowAt.alike k hs items o hc⟩, h4.alike k⟩
theorem Val.RowAt.alike {S : Nat → Prop} {w w' : World} (k : Alike S w w') {b : Nat} (hs : S b) : ∀ (l : List Val) (o : Nat), Val.RowAt S w l b o → Val.RowAt S w' l b o
  | [], _, _ => by unfold Val.RowAt; trivial
  | v :: r, o, h => by
    unfold Val.RowAt at h ⊢
    obtain ⟨⟨cs, hl, hc, hv⟩, hr⟩ := h
    exact ⟨⟨cs, hl, hc.alike hs k, Val.At.alike k v cs hv⟩, Val.RowAt.alike k hs r (o + 8) hr⟩
end

mutual
theorem Val.At.mono {S S' : Nat → Prop} {w : World} (k : ∀ b, S b → S' b) : ∀ (v : Val) (cs : List Value), Val.At S w v cs → Val.At S' w v cs
  | .mk _ _ _ _ _ _ items names, cs, h => by
    unfold Val.At at h ⊢
    obtain ⟨A, cap, nv, e, h1, h2, h3, h4⟩ := h
    exact ⟨A, cap, nv, e, h1, h2, fun hn => let ⟨b, o, e, hs, hc⟩ := h3 hn; ⟨b, o, e, k b hs, Val.RowAt.mono k items b o hc⟩, h4.mono k⟩
theorem Val.RowAt.mono {S S' : Nat → Prop} {w : World} (k : ∀ b, S b → S' b) : ∀ (l : List Val) (b o : Nat), Val.RowAt S w l b o → Val.RowAt S' w l b o
  | [], _, _, _ => by unfold Val.RowAt; trivial
  | v :: r, b, o, h => by
    unfold Val.RowAt at h ⊢
    obtain ⟨⟨cs, hl, hc, hv⟩, hr⟩ := h
    exact ⟨⟨cs, hl, hc, Val.At.mono k v cs hv⟩, Val.RowAt.mono k r b (o + 8) hr⟩
end

/-- a row's element by its place -/
theorem Val.RowAt.get {S : Nat → Prop} {w : World} : ∀ {l : List Val} {b o : Nat}, Val.RowAt S w l b o → ∀ {i : Nat} {x : Val}, l[i]? = some x →
    ∃ cs, cs.length = 8 ∧ CellsAt w b (o + i * 8) cs ∧ Val.At S w x cs
  | [], _, _, _, _, _, h => by simp at h
  | v :: r, b, o, h, 0, x, hx => by
    unfold Val.RowAt at h; simp at hx; subst hx; simpa using h.1
  | v :: r, b, o, h, i + 1, x, hx => by
    unfold Val.RowAt at h
    obtain ⟨cs, h1, h2, h3⟩ := Val.RowAt.get h.2 (i := i) (x := x) (by simpa using hx)
    exact ⟨cs, h1, by rw [show o + (i + 1) * 8 = o + 8 + i * 8 from by omega]; exact h2, h3⟩

theorem Val.RowAt.mk {S : Nat → Prop} {w : World} : ∀ {l : List Val} {b o : Nat}, (∀ i x, l[i]? = some x → ∃ cs, cs.length = 8 ∧ CellsAt w b (o + i * 8) cs ∧ Val.At S w x cs) → Val.RowAt S w l b o
  | [], _, _, _ => by unfold Val.RowAt; trivial
  | v :: r, b, o, h => by
    unfold Val.RowAt
    refine ⟨by simpa using h 0 v rfl, Val.RowAt.mk fun i x hx => ?_⟩
    obtain ⟨cs, h1, h2, h3⟩ := h (i + 1) x (by simpa using hx)
    exact ⟨cs, h1, by rw [show o + 8 + i * 8 = o + (i + 1) * 8 from by omega]; exact h2, h3⟩

/-- a struct read out of memory -/
theorem run_loadVar_cells {P : Program} {w : World} {t : TypeId} {b o : Nat} {cs : List Value} {n : Nat} (hA : ∀ w, (isAgg t).run P w = .ok true w) (hz : ∀ w, (Go.sizeOf t).run P w = .ok n w)
    (hn : cs.length = n) (h : CellsAt w b o cs) : (loadVar t ⟨b, o, none⟩).run P w = .ok (.agg cs.toArray) w := by
  have := run_loadCells_list (P := P) (w := w) ⟨b, o, none⟩ cs (fun j v hj => by
    have := h j v hj
    unfold Addr.add
    by_cases h0 : j = 0
    · subst h0; simpa using this
    · simpa [h0] using this)
  simp [loadVar, hA, hz, hn ▸ this]

/-- the same, as a step of a walk -/
theorem wpList_load_cells {P : Program} {ops : Array Oper} {rest : List Oper} {o : Oper} {a : Act} {w : World} {Q : Exit → Act → World → Prop} (hgd : o.guard = none) (ty : TypeId) (x : Operand) (ho : o.op = .load ty x)
    (b off : Nat) (hx : a.eval x = .pointer (some ⟨b, off, none⟩)) {cs : List Value} {n : Nat} (hA : ∀ w, (isAgg ty).run P w = .ok true w) (hz : ∀ w, (Go.sizeOf ty).run P w = .ok n w) (hn : cs.length = n)
    (h : CellsAt w b off cs) (hk : wpList P ops Q rest (a.put o.dst (.agg cs.toArray)) w) : wpList P ops Q (o :: rest) a w :=
  wpList_plain hgd fun K hK => by
    unfold Oper.wp execOp
    simp only [ho, hx, Instr.loadAt, Instr.sureAddr, Sem.run_bind, Sem.run_pure, Result.andThen_ok, run_loadVar_cells hA hz hn h]
    exact hK _ _ hk

end Go.Proofs.Ytpkgkabcikmopaa
