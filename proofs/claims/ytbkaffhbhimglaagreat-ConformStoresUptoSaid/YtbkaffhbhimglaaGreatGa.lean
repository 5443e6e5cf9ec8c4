/-
  Words for memory: which machine cells stand for which plain data, and what keeps them. No program in sight. The conditions: none (definitions and lemmas).
-/
import Derived.Test.YtbkaffhbhimglaaGreatRows
import Derived.WalkKit
import Derived.WalkLawsBesides
import Derived.WalkSpells
import Derived.Lib.Hide
import Derived.Laws.Rows
import Derived.Laws.Cells
import Derived.StillTail
import Derived.Deep.QuietTactic
import Derived.BigQuiet
import Derived.Lib.QuietBelow
namespace Go.Proofs.YtbkaffhbhimglaaGreat
open Go.RowKit
def CellsAt (w : World) (b o : Nat) (cs : List Value) : Prop := ∀ j v, cs[j]? = some v → w.cell? ⟨b, o + j, none⟩ = some v
structure Ext (w w' : World) : Prop extends Below w.heap.size w w' where
 drawn : w.drawn ≤ w'.drawn
theorem Ext.refl (w : World) : Ext w w := ⟨Below.refl _ _, Nat.le_refl _⟩
theorem Ext.trans {a b c : World} (h : Ext a b) (k : Ext b c) : Ext a c := ⟨Below.trans h.toBelow (Below.mono k.toBelow h.size), Nat.le_trans h.drawn k.drawn⟩
theorem Ext.alloc {w w' : World} (h : Ext w w') (o : Obj) : Ext w (w'.alloc o) := ⟨Below.alloc h.toBelow h.size o, h.drawn⟩
theorem Ext.drewN {w w' : World} (h : Ext w w') (n : Nat) : Ext w (w'.drewN n) := ⟨⟨h.os, h.tape, h.output, h.size, h.block⟩, Nat.le_trans h.drawn (Nat.le_add_right _ _)⟩
theorem ask_drawn {α : Type} (k : Ask α) : ∀ w : World, w.drawn ≤ (w.ask k).2.drawn := by
 induction k with
 | done a => intro w; exact Nat.le_refl _
 | ask what range k ih =>
  intro w
  simp only [World.ask]
  split
  ·exact ih _ _
  ·exact Nat.le_trans (Nat.le_succ _) (ih _ { w with drawn := w.drawn + 1 })
theorem sys_drawn (w : World) (c : Sys) : w.drawn ≤ (w.sys c).2.drawn := by
 have h := ask_drawn (Kernel.perform c w.os) w
 unfold World.sys
 split
 ·exact Nat.le_refl _
 ·rename_i r os w1 _ he
  rw [he] at h; exact h
theorem farStore_drawn {P : Program} {w w' : World} {a : Addr} {v : Value} {t : Bool} {l : List Addr} (h : w.farStore P a v t = .ok (w', l)) : w.drawn ≤ w'.drawn := by
 unfold World.farStore at h
 split at h
 ·split at h
  ·rename_i r he
   injection h with h
   subst h
   unfold World.viewStore at he
   simp only [bind, Except.bind, pure, Except.pure] at he
   repeat' (split at he <;> try (cases he; done))
   all_goals (try (injection he with he; rw [Prod.mk.injEq] at he; rw [← he.1]; exact Nat.le_refl _))
  ·cases h
 ·cases h
theorem zed {P : Program} {α : Type} (s : Sem α) : ∀ (w : World) (a : α) (w' : World), s.run P w = .ok a w' → w.drawn ≤ w'.drawn := by
 induction s with
 | pure a => intro w a' w' h; simp only [Sem.run] at h; cases h; exact Nat.le_refl _
 | load m a k ih => intro w a' w' h; simp only [Sem.run] at h; (repeat' split at h) <;> first | exact ih _ _ _ _ h | cases h
 | store m a v k ih =>
  intro w a' w' h
  cases v <;> simp only [Sem.run] at h <;> first
   | (cases h; done)
   | ((repeat' split at h) <;> first | (have := ih _ _ _ h; simpa [World.setCell] using this) | (rename_i he; have := ih _ _ _ h; exact Nat.le_trans (farStore_drawn he) this) | cases h)
 | new o k ih => intro w a' w' h; simp only [Sem.run] at h; exact ih w.heap.size { w with heap := w.heap.push o } a' w' h
 | shape r k ih => intro w a' w' h; simp only [Sem.run] at h; exact ih _ _ _ _ h
 | freeze a n k ih => intro w a' w' h; simp only [Sem.run] at h; have := ih _ _ _ h; unfold World.freeze at this; split at this <;> exact this
 | frozen a k ih => intro w a' w' h; simp only [Sem.run] at h; exact ih _ _ _ _ h
 | getObj r k ih => intro w a' w' h; simp only [Sem.run] at h; split at h <;> first | exact ih _ _ _ _ h | cases h
 | setObj r o k ih => intro w a' w' h; simp only [Sem.run] at h; split at h <;> first | exact ih { w with heap := w.heap.setIfInBounds r o } a' w' h | cases h
 | choose q k ih => intro w a' w' h; simp only [Sem.run] at h; split at h <;> first | exact ih _ _ _ _ h | exact Nat.le_trans (Nat.le_succ _) (ih _ { w with drawn := w.drawn + 1 } a' w' h)
 | sys c k ih => intro w a' w' h; simp only [Sem.run] at h; exact Nat.le_trans (sys_drawn w c) (ih _ _ _ _ h)
 | program k ih => intro w a' w' h; simp only [Sem.run] at h; exact ih _ _ _ _ h
 | mark m k ih => intro w a' w' h; simp only [Sem.run] at h; exact ih _ _ _ h
 | halt h => intro w a' w' h; simp only [Sem.run] at h; cases h
def Alike (S : Nat → Prop) (w w' : World) : Prop := ∀ b, S b → w'.heap[b]? = w.heap[b]?
theorem Alike.of_ext {w w' : World} {S : Nat → Prop} (h : Ext w w') (hS : ∀ b, S b → b < w.heap.size) : Alike S w w' := fun b hb => h.block b (hS b hb)
theorem Alike.trans {S : Nat → Prop} {a b c : World} (h : Alike S a b) (k : Alike S b c) : Alike S a c := fun i hi => (k i hi).trans (h i hi)
theorem Alike.refl (S : Nat → Prop) (w : World) : Alike S w w := fun _ _ => rfl
theorem CellsAt.alike {S : Nat → Prop} {w w' : World} {b o : Nat} {cs : List Value} (h : CellsAt w b o cs) (hs : S b) (k : Alike S w w') : CellsAt w' b o cs :=
 fun j v hj => (World.cell?_of_block (w := w) (a := ⟨b, o + j, none⟩) (k b hs)).trans (h j v hj)
theorem CellsAt.alloc {w : World} {b o : Nat} {cs : List Value} (h : CellsAt w b o cs) (hb : b < w.heap.size) (x : Obj) : CellsAt (w.alloc x) b o cs :=
 fun j v hj => by rw [World.cell?_of_block (w := w) (a := ⟨b, o + j, none⟩) (Below.heap_alloc w x b hb)]; exact h j v hj
theorem CellsAt.drew {w : World} {b o : Nat} {cs : List Value} (h : CellsAt w b o cs) : CellsAt w.drew b o cs := h
inductive Val where
 | mk (kind : Int) (bo : Bool) (n : Int) (t ut ui : ByteArray) (items : List Val) (names : List ByteArray)
namespace Val
def kind : Val → Int | mk k _ _ _ _ _ _ _ => k
def bo : Val → Bool | mk _ b _ _ _ _ _ _ => b
def num : Val → Int | mk _ _ n _ _ _ _ _ => n
def text : Val → ByteArray | mk _ _ _ t _ _ _ _ => t
def ut : Val → ByteArray | mk _ _ _ _ t _ _ _ => t
def ui : Val → ByteArray | mk _ _ _ _ _ t _ _ => t
def items : Val → List Val | mk _ _ _ _ _ _ l _ => l
def names : Val → List ByteArray | mk _ _ _ _ _ _ _ l => l
end Val
def I64 (n : Int) : Prop := -9223372036854775808 ≤ n ∧ n ≤ 9223372036854775807
def LIM : Nat := 1073741824
def StrsAt (S : Nat → Prop) (w : World) (l : List ByteArray) (v : Value) : Prop :=
 ∃ A cap, v = .slice A l.length cap ∧ l.length ≤ LIM ∧ l.length ≤ cap ∧ cap ≤ maxLen ∧ (∀ s ∈ l, s.size ≤ maxLen) ∧
  (0 < l.length → ∃ b o, A = some ⟨b, o, none⟩ ∧ S b ∧ CellsAt w b o (l.map Value.string))
mutual
def Val.At (S : Nat → Prop) (w : World) : Val → List Value → Prop
 | .mk k bo n t ut ui items names, cs => ∃ A cap nv, cs = [.int .i64 k, .bool bo, .int .i64 n, .string t, .string ut, .string ui, .slice A items.length cap, nv] ∧
   (I64 k ∧ I64 n ∧ t.size ≤ maxLen ∧ ut.size ≤ maxLen ∧ ui.size ≤ maxLen) ∧ (items.length ≤ LIM ∧ items.length ≤ cap ∧ cap ≤ maxLen) ∧
   (0 < items.length → ∃ b o, A = some ⟨b, o, none⟩ ∧ S b ∧ Val.RowAt S w items b o) ∧ StrsAt S w names nv
def Val.RowAt (S : Nat → Prop) (w : World) : List Val → Nat → Nat → Prop
 | [], _, _ => True
 | v :: r, b, o => (∃ cs, cs.length = 8 ∧ CellsAt w b o cs ∧ Val.At S w v cs) ∧ Val.RowAt S w r b (o + 8)
end
theorem Val.At.length {S : Nat → Prop} {w : World} {v : Val} {cs : List Value} (h : Val.At S w v cs) : cs.length = 8 := by
 cases v; unfold Val.At at h; obtain ⟨A, cap, nv, rfl, _⟩ := h; rfl
theorem StrsAt.alike {S : Nat → Prop} {w w' : World} {l : List ByteArray} {v : Value} (h : StrsAt S w l v) (k : Alike S w w') : StrsAt S w' l v := by
 obtain ⟨A, cap, h1, h0, h2, h3, h4, h5⟩ := h
 exact ⟨A, cap, h1, h0, h2, h3, h4, fun hn => let ⟨b, o, e, hs, hc⟩ := h5 hn; ⟨b, o, e, hs, hc.alike hs k⟩⟩
theorem StrsAt.mono {S S' : Nat → Prop} {w : World} {l : List ByteArray} {v : Value} (h : StrsAt S w l v) (k : ∀ b, S b → S' b) : StrsAt S' w l v := by
 obtain ⟨A, cap, h1, h0, h2, h3, h4, h5⟩ := h
 exact ⟨A, cap, h1, h0, h2, h3, h4, fun hn => let ⟨b, o, e, hs, hc⟩ := h5 hn; ⟨b, o, e, k b hs, hc⟩⟩
mutual
theorem Val.At.alike {S : Nat → Prop} {w w' : World} (k : Alike S w w') : ∀ (v : Val) (cs : List Value), Val.At S w v cs → Val.At S w' v cs
 | .mk _ _ _ _ _ _ items names, cs, h => by
  unfold Val.At at h ⊢
  obtain ⟨A, cap, nv, e, h1, h2, h3, h4⟩ := h
  exact ⟨A, cap, nv, e, h1, h2, fun hn => let ⟨b, o, e, hs, hc⟩ := h3 hn; ⟨b, o, e, hs, Val.RowAt.alike k hs items o hc⟩, h4.alike k⟩
theorem Val.RowAt.alike {S : Nat → Prop} {w w' : World} (k : Alike S w w') {b : Nat} (hs : S b) : ∀ (l : List Val) (o : Nat), Val.RowAt S w l b o → Val.RowAt S w' l b o
 | [], _, _ => by unfold Val.RowAt; trivial
 | v :: r, o, h => by
  unfold Val.RowAt at h ⊢
  obtain ⟨⟨cs, hl, hc, hv⟩, hr⟩ := h
  exact ⟨⟨cs, hl, hc.alike hs k, Val.At.alike k v cs hv⟩, Val.RowAt.alike k hs r (o + 8) hr⟩
end
mutual
theorem Val.At.mono {S S' : Nat → Prop} {w : World} (k : ∀ b, S b → S' b) : ∀ (v : Val) (cs : List Value), Val.At S w v cs → Val.At S' w v cs
 | .mk _ _ _ _ _ _ items names, cs, h => by
  unfold Val.At at h ⊢
  obtain ⟨A, cap, nv, e, h1, h2, h3, h4⟩ := h
  exact ⟨A, cap, nv, e, h1, h2, fun hn => let ⟨b, o, e, hs, hc⟩ := h3 hn; ⟨b, o, e, k b hs, Val.RowAt.mono k items b o hc⟩, h4.mono k⟩
theorem Val.RowAt.mono {S S' : Nat → Prop} {w : World} (k : ∀ b, S b → S' b) : ∀ (l : List Val) (b o : Nat), Val.RowAt S w l b o → Val.RowAt S' w l b o
 | [], _, _, _ => by unfold Val.RowAt; trivial
 | v :: r, b, o, h => by
  unfold Val.RowAt at h ⊢
  obtain ⟨⟨cs, hl, hc, hv⟩, hr⟩ := h
  exact ⟨⟨cs, hl, hc, Val.At.mono k v cs hv⟩, Val.RowAt.mono k r b (o + 8) hr⟩
end
theorem Val.RowAt.get {S : Nat → Prop} {w : World} : ∀ {l : List Val} {b o : Nat}, Val.RowAt S w l b o → ∀ {i : Nat} {x : Val}, l[i]? = some x →
  ∃ cs, cs.length = 8 ∧ CellsAt w b (o + i * 8) cs ∧ Val.At S w x cs
 | [], _, _, _, _, _, h => by simp at h
 | v :: r, b, o, h, 0, x, hx => by
  unfold Val.RowAt at h; simp at hx; subst hx; simpa using h.1
 | v :: r, b, o, h, i + 1, x, hx => by
  unfold Val.RowAt at h
  obtain ⟨cs, h1, h2, h3⟩ := Val.RowAt.get h.2 (i := i) (x := x) (by simpa using hx)
  exact ⟨cs, h1, by rw [show o + (i + 1) * 8 = o + 8 + i * 8 from by omega]; exact h2, h3⟩
theorem Val.RowAt.mk {S : Nat → Prop} {w : World} : ∀ {l : List Val} {b o : Nat}, (∀ i x, l[i]? = some x → ∃ cs, cs.length = 8 ∧ CellsAt w b (o + i * 8) cs ∧ Val.At S w x cs) → Val.RowAt S w l b o
 | [], _, _, _ => by unfold Val.RowAt; trivial
 | v :: r, b, o, h => by
  unfold Val.RowAt
  refine ⟨by simpa using h 0 v rfl, Val.RowAt.mk fun i x hx => ?_⟩
  obtain ⟨cs, h1, h2, h3⟩ := h (i + 1) x (by simpa using hx)
  exact ⟨cs, h1, by rw [show o + 8 + i * 8 = o + (i + 1) * 8 from by omega]; exact h2, h3⟩
theorem zct {P : Program} {w : World} {t : TypeId} {b o : Nat} {cs : List Value} {n : Nat} (hA : ∀ w, (isAgg t).run P w = .ok true w) (hz : ∀ w, (Go.sizeOf t).run P w = .ok n w)
  (hn : cs.length = n) (h : CellsAt w b o cs) : (loadVar t ⟨b, o, none⟩).run P w = .ok (.agg cs.toArray) w := by
 have := run_loadCells_list (P := P) (w := w) ⟨b, o, none⟩ cs (fun j v hj => by
  have := h j v hj
  unfold Addr.add
  by_cases h0 : j = 0
  ·subst h0; simpa using this
  ·simpa [h0] using this)
 simp [loadVar, hA, hz, hn ▸ this]
theorem zac {P : Program} {ops : Array Oper} {rest : List Oper} {o : Oper} {a : Act} {w : World} {Q : Exit → Act → World → Prop} (hgd : o.guard = none) (ty : TypeId) (x : Operand) (ho : o.op = .load ty x)
  (b off : Nat) (hx : a.eval x = .pointer (some ⟨b, off, none⟩)) {cs : List Value} {n : Nat} (hA : ∀ w, (isAgg ty).run P w = .ok true w) (hz : ∀ w, (Go.sizeOf ty).run P w = .ok n w) (hn : cs.length = n)
  (h : CellsAt w b off cs) (hk : wpList P ops Q rest (a.put o.dst (.agg cs.toArray)) w) : wpList P ops Q (o :: rest) a w :=
 wpList_plain hgd fun K hK => by
  unfold Oper.wp execOp
  simp only [ho, hx, Instr.loadAt, Instr.sureAddr, Sem.run_bind, Sem.run_pure, Result.andThen_ok, zct hA hz hn h]
  exact hK _ _ hk
end Go.Proofs.YtbkaffhbhimglaaGreat

/-
  The order of values, as plain mathematics: turning round, going over three. No program in sight. The conditions: none (definitions and lemmas).
-/
namespace Go.Proofs.YtbkaffhbhimglaaGreat
open Go.RowKit
def cmpI (a b : Int) : Int := if a < b then -1 else if b < a then 1 else 0
def cmpL : List UInt8 → List UInt8 → Int
 | [], [] => 0
 | [], _ :: _ => -1
 | _ :: _, [] => 1
 | x :: r, y :: s => if x < y then -1 else if y < x then 1 else cmpL r s
def cmpS (a b : ByteArray) : Int := cmpL a.toList b.toList
def zeb (a b : Int) : Int := if a = 0 then b else a
def lexL {α : Type} (c : α → α → Int) : List α → List α → Int
 | [], [] => 0
 | [], _ :: _ => -1
 | _ :: _, [] => 1
 | x :: r, y :: s => zeb (c x y) (lexL c r s)
def bit (b : Bool) : Int := if b then 1 else 0
theorem zd7 : ∀ a b : List UInt8, Op.bytesLess a b = decide (cmpL a b = -1)
 | [], [] => by simp [Op.bytesLess, cmpL]
 | [], _ :: _ => by simp [Op.bytesLess, cmpL]
 | _ :: _, [] => by simp [Op.bytesLess, cmpL]
 | x :: r, y :: s => by
  simp only [Op.bytesLess, cmpL, zd7 r s]
  by_cases h1 : x < y
  ·simp [h1]
  ·by_cases h2 : y < x
   ·have h3 : x ≠ y := by rintro rfl; exact absurd h2 h1
    simp [h1, h2, h3]
   ·have h3 : x = y := by
     apply UInt8.toNat_inj.1
     rw [UInt8.lt_iff_toNat_lt] at h1 h2; omega
    simp [h3]
structure GoodAt {α : Type} (c : α → α → Int) (a : α) : Prop where
 refl : c a a = 0
 turn : ∀ b, c b a = -(c a b)
 range : ∀ b, c a b = -1 ∨ c a b = 0 ∨ c a b = 1
 cong : ∀ b d, c a b = 0 → c b d = c a d
 less : ∀ b d, c a b = -1 → c b d ≤ 0 → c a d = -1
theorem GoodAt.cmpI (a : Int) : GoodAt cmpI a where
 refl := by simp [Go.Proofs.YtbkaffhbhimglaaGreat.cmpI]
 turn b := by unfold Go.Proofs.YtbkaffhbhimglaaGreat.cmpI; repeat' split <;> omega
 range b := by unfold Go.Proofs.YtbkaffhbhimglaaGreat.cmpI; repeat' split <;> omega
 cong b d h := by
  unfold Go.Proofs.YtbkaffhbhimglaaGreat.cmpI at h
  have : a = b := by repeat' split at h <;> omega
  rw [this]
 less b d h k := by
  unfold Go.Proofs.YtbkaffhbhimglaaGreat.cmpI at *
  repeat' split at h <;> try omega
  repeat' split at k <;> try omega
  all_goals rw [if_pos (by omega)]
theorem cmpL_refl : ∀ a : List UInt8, cmpL a a = 0
 | [] => rfl
 | x :: r => by simp [cmpL, cmpL_refl r]
theorem cmpL_turn : ∀ a b : List UInt8, cmpL b a = -(cmpL a b)
 | [], [] => rfl
 | [], _ :: _ => rfl
 | _ :: _, [] => rfl
 | x :: r, y :: s => by
  simp only [cmpL, cmpL_turn r s, UInt8.lt_iff_toNat_lt]
  repeat' split <;> first | rfl | omega
theorem cmpL_range : ∀ a b : List UInt8, cmpL a b = -1 ∨ cmpL a b = 0 ∨ cmpL a b = 1
 | [], [] => by simp [cmpL]
 | [], _ :: _ => by simp [cmpL]
 | _ :: _, [] => by simp [cmpL]
 | x :: r, y :: s => by
  simp only [cmpL]
  split
  ·simp
  ·split
   ·simp
   ·exact cmpL_range r s
theorem cmpL_eq : ∀ a b : List UInt8, cmpL a b = 0 → a = b
 | [], [] => by simp
 | [], _ :: _ => by simp [cmpL]
 | _ :: _, [] => by simp [cmpL]
 | x :: r, y :: s => by
  simp only [cmpL, UInt8.lt_iff_toNat_lt]
  split
  ·simp
  ·split
   ·simp
   ·intro h
    have := cmpL_eq r s h
    have hx : x = y := UInt8.toNat_inj.1 (by omega)
    rw [this, hx]
theorem cmpL_less : ∀ a b d : List UInt8, cmpL a b = -1 → cmpL b d ≤ 0 → cmpL a d = -1
 | [], [], _ => by simp [cmpL]
 | [], _ :: _, [] => by simp [cmpL]
 | [], _ :: _, _ :: _ => by simp [cmpL]
 | _ :: _, [], _ => by simp [cmpL]
 | _ :: _, _ :: _, [] => by simp [cmpL]
 | x :: r, y :: s, z :: t => by
  simp only [cmpL, UInt8.lt_iff_toNat_lt]
  intro h k
  by_cases h1 : x.toNat < y.toNat
  ·by_cases h2 : y.toNat < z.toNat
   ·rw [if_pos (by omega)]
   ·rw [if_neg h2] at k
    by_cases h3 : z.toNat < y.toNat
    ·rw [if_pos h3] at k; omega
    ·rw [if_pos (by omega)]
  ·rw [if_neg h1] at h
   by_cases h2 : y.toNat < x.toNat
   ·rw [if_pos h2] at h; omega
   ·rw [if_neg h2] at h
    by_cases h3 : y.toNat < z.toNat
    ·rw [if_pos (by omega)]
    ·rw [if_neg h3] at k
     by_cases h4 : z.toNat < y.toNat
     ·rw [if_pos h4] at k; omega
     ·rw [if_neg h4] at k
      rw [if_neg (by omega), if_neg (by omega)]
      exact cmpL_less r s t h k
theorem zbs {a b : ByteArray} (h : a.toList = b.toList) : a = b := by
 rw [ByteArray.toList_eq, ByteArray.toList_eq] at h
 exact WideShapes.bytes_inj h
theorem zek {a b : ByteArray} (h : cmpS a b = 0) : a = b := zbs (cmpL_eq _ _ h)
theorem GoodAt.cmpS (a : ByteArray) : GoodAt cmpS a where
 refl := cmpL_refl _
 turn b := cmpL_turn _ _
 range b := cmpL_range _ _
 cong b d h := by rw [zek h]
 less b d h k := cmpL_less _ _ _ h k
theorem GoodAt.lexL {α : Type} {c : α → α → Int} : ∀ {l : List α}, (∀ x ∈ l, GoodAt c x) → GoodAt (lexL c) l
 | [], _ => by
  constructor
  ·rfl
  ·intro b; cases b <;> simp [Go.Proofs.YtbkaffhbhimglaaGreat.lexL]
  ·intro b; cases b <;> simp [Go.Proofs.YtbkaffhbhimglaaGreat.lexL]
  ·intro b d; cases b <;> simp [Go.Proofs.YtbkaffhbhimglaaGreat.lexL]
  ·intro b d; cases b <;> cases d <;> simp [Go.Proofs.YtbkaffhbhimglaaGreat.lexL]
 | x :: r, h => by
  have hx := h x (by simp)
  have ih := GoodAt.lexL (l := r) fun y hy => h y (by simp [hy])
  constructor
  ·simp [Go.Proofs.YtbkaffhbhimglaaGreat.lexL, zeb, hx.refl, ih.refl]
  ·intro b
   cases b with
   | nil => simp [Go.Proofs.YtbkaffhbhimglaaGreat.lexL]
   | cons y s =>
    have h1 := hx.turn y
    have h2 := ih.turn s
    simp only [Go.Proofs.YtbkaffhbhimglaaGreat.lexL, zeb]
    repeat' split <;> omega
  ·intro b
   cases b with
   | nil => simp [Go.Proofs.YtbkaffhbhimglaaGreat.lexL]
   | cons y s =>
    have h1 := hx.range y
    have h2 := ih.range s
    simp only [Go.Proofs.YtbkaffhbhimglaaGreat.lexL, zeb]
    repeat' split <;> omega
  ·intro b d hb
   cases b with
   | nil => simp [Go.Proofs.YtbkaffhbhimglaaGreat.lexL] at hb
   | cons y s =>
    simp only [Go.Proofs.YtbkaffhbhimglaaGreat.lexL, zeb] at hb
    have h0 : c x y = 0 := by
     split at hb
     ·assumption
     ·exact hb
    rw [if_pos h0] at hb
    cases d with
    | nil => simp [Go.Proofs.YtbkaffhbhimglaaGreat.lexL]
    | cons z t => simp only [Go.Proofs.YtbkaffhbhimglaaGreat.lexL, hx.cong y z h0, ih.cong s t hb]
  ·intro b d hb hd
   cases b with
   | nil => simp [Go.Proofs.YtbkaffhbhimglaaGreat.lexL] at hb
   | cons y s =>
    cases d with
    | nil => simp [Go.Proofs.YtbkaffhbhimglaaGreat.lexL] at hd
    | cons z t =>
     simp only [Go.Proofs.YtbkaffhbhimglaaGreat.lexL, zeb] at hb hd ⊢
     by_cases h0 : c x y = 0
     ·rw [if_pos h0] at hb
      rw [hx.cong y z h0] at hd
      by_cases h1 : c x z = 0
      ·rw [if_pos h1] at hd ⊢
       exact ih.less s t hb hd
      ·rw [if_neg h1] at hd ⊢
       have := hx.range z; omega
     ·rw [if_neg h0] at hb
      have h3 : c y z ≤ 0 := by
       by_cases h1 : c y z = 0
       ·omega
       ·rw [if_neg h1] at hd; exact hd
      have := hx.less y z hb h3
      rw [if_neg (by omega)]
      exact this
theorem lexL_eq {α : Type} {c : α → α → Int} : ∀ {l m : List α}, (∀ x ∈ l, ∀ y ∈ m, c x y = 0 → x = y) → lexL c l m = 0 → l = m
 | [], [], _, _ => rfl
 | [], _ :: _, _, h => by simp [lexL] at h
 | _ :: _, [], _, h => by simp [lexL] at h
 | x :: r, y :: s, hc, h => by
  simp only [lexL, zeb] at h
  have h0 : c x y = 0 := by
   split at h
   ·assumption
   ·exact h
  rw [if_pos h0] at h
  rw [hc x (by simp) y (by simp) h0, lexL_eq (fun a ha b hb => hc a (by simp [ha]) b (by simp [hb])) h]
mutual
def Val.ord : Val → Val → Int
 | .mk k bo n t ut ui items names, .mk k' bo' n' t' ut' ui' items' names' =>
  if k ≠ k' then cmpI k k' else
  if k = 1 then cmpI (bit bo) (bit bo') else
  if k = 2 then cmpI n n' else
  if k = 3 then cmpS t t' else
  if k = 4 then zeb (cmpS ut ut') (cmpS ui ui') else
  if k = 5 then Val.ords items items.length items' items'.length else
  if k = 6 then zeb (lexL cmpS names names') (Val.ords items names.length items' names'.length) else 0
def Val.ords : List Val → Nat → List Val → Nat → Int
 | [], _, l, m => if l = [] ∨ m = 0 then 0 else -1
 | _ :: _, 0, l, m => if l = [] ∨ m = 0 then 0 else -1
 | _ :: _, _ + 1, [], _ => 1
 | _ :: _, _ + 1, _ :: _, 0 => 1
 | x :: r, n + 1, y :: s, m + 1 => zeb (Val.ord x y) (Val.ords r n s m)
end
theorem Val.ords_eq : ∀ (l : List Val) (n : Nat) (l' : List Val) (m : Nat), Val.ords l n l' m = lexL Val.ord (l.take n) (l'.take m)
 | [], n, [], m => by simp [Val.ords, lexL]
 | [], n, y :: s, 0 => by simp [Val.ords, lexL]
 | [], n, y :: s, m + 1 => by simp [Val.ords, lexL]
 | x :: r, 0, [], m => by simp [Val.ords, lexL]
 | x :: r, 0, y :: s, 0 => by simp [Val.ords, lexL]
 | x :: r, 0, y :: s, m + 1 => by simp [Val.ords, lexL]
 | x :: r, n + 1, [], m => by simp [Val.ords, lexL]
 | x :: r, n + 1, y :: s, 0 => by simp [Val.ords, lexL]
 | x :: r, n + 1, y :: s, m + 1 => by simp [Val.ords, lexL, Val.ords_eq r n s m]
theorem Val.ord_def (a b : Val) : a.ord b = if a.kind ≠ b.kind then cmpI a.kind b.kind else
  if a.kind = 1 then cmpI (bit a.bo) (bit b.bo) else
  if a.kind = 2 then cmpI a.num b.num else
  if a.kind = 3 then cmpS a.text b.text else
  if a.kind = 4 then zeb (cmpS a.ut b.ut) (cmpS a.ui b.ui) else
  if a.kind = 5 then lexL Val.ord a.items b.items else
  if a.kind = 6 then zeb (lexL cmpS a.names b.names) (lexL Val.ord (a.items.take a.names.length) (b.items.take b.names.length)) else 0 := by
 cases a; cases b
 simp only [Val.ord, Val.ords_eq, Val.kind, Val.bo, Val.num, Val.text, Val.ut, Val.ui, Val.items, Val.names, List.take_length]
 rfl
theorem GoodAt.both {α β : Type} {c : α → α → Int} {d : β → β → Int} {a : α} {x : β} (h : GoodAt c a) (k : GoodAt d x) : GoodAt (fun p q : α × β => zeb (c p.1 q.1) (d p.2 q.2)) (a, x) where
 refl := by simp [zeb, h.refl, k.refl]
 turn b := by
  have h1 := h.turn b.1
  have h2 := k.turn b.2
  simp only [zeb]
  repeat' split <;> omega
 range b := by
  have h1 := h.range b.1
  have h2 := k.range b.2
  simp only [zeb]
  repeat' split <;> omega
 cong b e hb := by
  simp only [zeb] at hb
  have h0 : c a b.1 = 0 := by
   split at hb
   ·assumption
   ·exact hb
  rw [if_pos h0] at hb
  simp only [h.cong b.1 e.1 h0, k.cong b.2 e.2 hb]
 less b e hb he := by
  simp only [zeb] at hb he ⊢
  by_cases h0 : c a b.1 = 0
  ·rw [if_pos h0] at hb
   rw [h.cong b.1 e.1 h0] at he
   by_cases h1 : c a e.1 = 0
   ·rw [if_pos h1] at he ⊢
    exact k.less b.2 e.2 hb he
   ·rw [if_neg h1] at he ⊢
    have := h.range e.1; omega
  ·rw [if_neg h0] at hb
   have h3 : c b.1 e.1 ≤ 0 := by
    by_cases h1 : c b.1 e.1 = 0
    ·omega
    ·rw [if_neg h1] at he; exact he
   have := h.less b.1 e.1 hb h3
   rw [if_neg (by omega)]
   exact this
theorem GoodAt.part {α β : Type} {c : β → β → Int} (f : α → β) {a : α} (h : GoodAt c (f a)) : GoodAt (fun p q => c (f p) (f q)) a :=
 ⟨h.refl, fun _ => h.turn _, fun _ => h.range _, fun _ _ => h.cong _ _, fun _ _ => h.less _ _⟩
theorem Val.mem_size {v x : Val} (h : x ∈ v.items) : SizeOf.sizeOf x < SizeOf.sizeOf v := by
 cases v
 have := List.sizeOf_lt_of_mem h
 simp only [Val.items] at this
 simp; omega
theorem Val.good : ∀ (n : Nat) (a : Val), SizeOf.sizeOf a ≤ n → GoodAt Val.ord a
 | 0, a, h => by cases a; simp at h
 | n + 1, a, h => by
  have ih : ∀ x ∈ a.items, GoodAt Val.ord x := fun x hx => Val.good n x (by have := Val.mem_size hx; omega)
  have i5 : GoodAt (fun p q : Val => Go.Proofs.YtbkaffhbhimglaaGreat.lexL Val.ord p.items q.items) a := GoodAt.part (c := Go.Proofs.YtbkaffhbhimglaaGreat.lexL Val.ord) Val.items (GoodAt.lexL ih)
  have i6 : GoodAt (fun p q : Val => zeb (Go.Proofs.YtbkaffhbhimglaaGreat.lexL Go.Proofs.YtbkaffhbhimglaaGreat.cmpS p.names q.names) (Go.Proofs.YtbkaffhbhimglaaGreat.lexL Val.ord (p.items.take p.names.length) (q.items.take q.names.length))) a :=
   GoodAt.part (fun p : Val => (p.names, p.items.take p.names.length)) (GoodAt.both (c := Go.Proofs.YtbkaffhbhimglaaGreat.lexL Go.Proofs.YtbkaffhbhimglaaGreat.cmpS) (d := Go.Proofs.YtbkaffhbhimglaaGreat.lexL Val.ord) (GoodAt.lexL fun x _ => GoodAt.cmpS x) (GoodAt.lexL fun x hx => ih x (List.mem_of_mem_take hx)))
  have i1 : GoodAt (fun p q : Val => Go.Proofs.YtbkaffhbhimglaaGreat.cmpI (bit p.bo) (bit q.bo)) a := GoodAt.part (fun p : Val => bit p.bo) (GoodAt.cmpI _)
  have i2 : GoodAt (fun p q : Val => Go.Proofs.YtbkaffhbhimglaaGreat.cmpI p.num q.num) a := GoodAt.part Val.num (GoodAt.cmpI _)
  have i3 : GoodAt (fun p q : Val => Go.Proofs.YtbkaffhbhimglaaGreat.cmpS p.text q.text) a := GoodAt.part Val.text (GoodAt.cmpS _)
  have i4 : GoodAt (fun p q : Val => zeb (Go.Proofs.YtbkaffhbhimglaaGreat.cmpS p.ut q.ut) (Go.Proofs.YtbkaffhbhimglaaGreat.cmpS p.ui q.ui)) a := GoodAt.part (fun p : Val => (p.ut, p.ui)) (GoodAt.both (GoodAt.cmpS _) (GoodAt.cmpS _))
  have ik : GoodAt (fun p q : Val => Go.Proofs.YtbkaffhbhimglaaGreat.cmpI p.kind q.kind) a := GoodAt.part Val.kind (GoodAt.cmpI _)
  -- behind the kind each has its own
  have hk : ∃ f : Val → Val → Int, GoodAt f a ∧ ∀ p q : Val, p.kind = a.kind → q.kind = a.kind → p.ord q = f p q := by
   by_cases h1 : a.kind = 1
   ·exact ⟨_, i1, fun p q hp hq => by rw [Val.ord_def, if_neg (by simp [hp, hq]), if_pos (by omega)]⟩
   by_cases h2 : a.kind = 2
   ·exact ⟨_, i2, fun p q hp hq => by rw [Val.ord_def, if_neg (by simp [hp, hq]), if_neg (by omega), if_pos (by omega)]⟩
   by_cases h3 : a.kind = 3
   ·exact ⟨_, i3, fun p q hp hq => by rw [Val.ord_def, if_neg (by simp [hp, hq]), if_neg (by omega), if_neg (by omega), if_pos (by omega)]⟩
   by_cases h4 : a.kind = 4
   ·exact ⟨_, i4, fun p q hp hq => by rw [Val.ord_def, if_neg (by simp [hp, hq]), if_neg (by omega), if_neg (by omega), if_neg (by omega), if_pos (by omega)]⟩
   by_cases h5 : a.kind = 5
   ·exact ⟨_, i5, fun p q hp hq => by rw [Val.ord_def, if_neg (by simp [hp, hq]), if_neg (by omega), if_neg (by omega), if_neg (by omega), if_neg (by omega), if_pos (by omega)]⟩
   by_cases h6 : a.kind = 6
   ·exact ⟨_, i6, fun p q hp hq => by rw [Val.ord_def, if_neg (by simp [hp, hq]), if_neg (by omega), if_neg (by omega), if_neg (by omega), if_neg (by omega), if_neg (by omega), if_pos (by omega)]⟩
   ·exact ⟨fun _ _ => 0, ⟨rfl, by simp, by simp, by simp, by simp⟩, fun p q hp hq => by rw [Val.ord_def, if_neg (by simp [hp, hq]), if_neg (by omega), if_neg (by omega), if_neg (by omega), if_neg (by omega), if_neg (by omega), if_neg (by omega)]⟩
  obtain ⟨f, hf, he⟩ := hk
  have hne : ∀ p q : Val, p.kind ≠ q.kind → p.ord q = Go.Proofs.YtbkaffhbhimglaaGreat.cmpI p.kind q.kind := fun p q hpq => by rw [Val.ord_def, if_pos hpq]
  have hz : ∀ p q : Val, p.kind ≠ q.kind → p.ord q ≠ 0 := fun p q hpq => by
   rw [hne p q hpq]; unfold Go.Proofs.YtbkaffhbhimglaaGreat.cmpI; repeat' split <;> omega
  constructor
  ·rw [he a a rfl rfl]; exact hf.refl
  ·intro b
   by_cases hb : b.kind = a.kind
   ·rw [he a b rfl hb, he b a hb rfl]; exact hf.turn b
   ·rw [hne b a hb, hne a b (Ne.symm hb)]; exact ik.turn b
  ·intro b
   by_cases hb : b.kind = a.kind
   ·rw [he a b rfl hb]; exact hf.range b
   ·rw [hne a b (Ne.symm hb)]; exact ik.range b
  ·intro b d h0
   by_cases hb : b.kind = a.kind
   ·by_cases hd : d.kind = a.kind
    ·rw [he a b rfl hb] at h0
     rw [he b d hb hd, he a d rfl hd]; exact hf.cong b d h0
    ·rw [hne b d (by omega), hne a d (by omega), hb]
   ·exact absurd h0 (hz a b (Ne.symm hb))
  ·intro b d h0 h1
   by_cases hb : b.kind = a.kind
   ·by_cases hd : d.kind = a.kind
    ·rw [he a b rfl hb] at h0
     rw [he b d hb hd] at h1
     rw [he a d rfl hd]; exact hf.less b d h0 h1
    ·rw [hne b d (by omega)] at h1
     rw [hne a d (by omega), ← hb]
     have := (GoodAt.cmpI b.kind).range d.kind
     have h2 := hz b d (by omega)
     rw [hne b d (by omega)] at h2
     omega
   ·rw [hne a b (Ne.symm hb)] at h0
    by_cases hd : d.kind = b.kind
    ·rw [hne a d (by omega), hd]; exact h0
    ·rw [hne b d (by omega)] at h1
     by_cases had : a.kind = d.kind
     ·exfalso
      rw [← had] at h1
      have h3 := (GoodAt.cmpI a.kind).turn b.kind
      omega
     ·rw [hne a d had]
      exact ik.less b d h0 h1
theorem Val.goodAt (a : Val) : GoodAt Val.ord a := Val.good _ a (Nat.le_refl _)
end Go.Proofs.YtbkaffhbhimglaaGreat

/-
  A statement whose order Go leaves open: operations that come to one value in every later world, in whatever order, and behind them a tail in a forced order. The conditions: none (lemmas on the model).
-/
namespace Go.Proofs.YtbkaffhbhimglaaGreat
open Go.RowKit
section
variable {P : Program} {ops : Array Oper} {md : Region.Mode} {C : World → Prop}
def anyHead (P : Program) (md : Region.Mode) (ops : Array Oper) (C : World → Prop) (n : Nat) (L : Array Bool → Act → Prop) : Nat → Array Bool → Act → Prop
 | 0, listed, a => L listed a
 | f + 1, listed, a =>
  Region.ready md ops listed ≠ [] ∧ ∀ i ∈ Region.ready md ops listed, i < n ∧ qOp P ops C i (anyHead P md ops C n L f (listed.setIfInBounds i true)) a
theorem anyHead_any {n g : Nat} {L : Array Bool → Act → Prop} {Q' : Exit → Act → World → Prop} (hL : ∀ listed a w, C w → L listed a → wpAny P md ops Q' g listed a w) :
  ∀ (f : Nat) (listed : Array Bool) (a : Act) (w : World), C w → anyHead P md ops C n L f listed a → wpAny P md ops Q' (f + g) listed a w
 | 0, listed, a, w, hw, h => by rw [Nat.zero_add]; exact hL _ _ _ hw h
 | f + 1, listed, a, w, hw, h => by
  rw [show f + 1 + g = (f + g) + 1 by omega]
  exact ⟨fun h0 => absurd h0 h.1, fun i hi => wpOp_of_qOp hw (fun a' w' hw' h' => anyHead_any hL f _ a' w' hw' h') (h.2 i hi).2⟩
theorem anyHead_first {n i : Nat} {oi : Oper} {v : Value} {L : Array Bool → Act → Prop} (hi : ops[i]? = some oi) (hsel : ∀ (j : Nat) (o : Oper) cs b, ops[j]? = some o → o.op ≠ .select cs b)
  (hs : Region.sinkB md ops n = true) (hc : Region.chainB md ops n = true) (hn : n < ops.size) (hin : i < n)
  (hdone : ∀ listed a, L listed a → ∀ j ∈ Region.ready md ops listed, n ≤ j) :
  ∀ (f : Nat) (listed : Array Bool) (a : Act), HeadInv md ops n listed →
   (∀ j oj, ops[j]? = some oj → j ≠ i → listed.getD j true = false → (∀ e ∈ oj.after, Region.binds md e = true → e.on ≠ i) → oi.apart ops oj = true) →
   i ∈ Region.ready md ops listed → YieldsIn P ops C oi v a →
   anyHead P md ops C n L f (listed.setIfInBounds i true) (a.put oi.dst v) → anyHead P md ops C n L (f + 1) listed a := by
 intro f
 induction f with
 | zero =>
  intro listed a inv _ hr hy H
  have hun := (mem_ready.1 hr).1
  refine ⟨fun h => (by rw [h] at hr; cases hr), fun j hj => ?_⟩
  have hjn : j < n := by
   rcases Nat.lt_or_ge j n with h | h
   ·exact h
   ·exact absurd hj (tail_waits hs hc hn inv _ i rfl hin hun j h)
  refine ⟨hjn, ?_⟩
  by_cases hji : j = i
  ·subst hji; exact hy.qOp hi H
  ·have := hdone _ _ H j (ready_mono hj hji)
   omega
 | succ f ih =>
  intro listed a inv hfree hr hy H
  have hun := (mem_ready.1 hr).1
  refine ⟨fun h => (by rw [h] at hr; cases hr), fun j hj => ?_⟩
  have hjn : j < n := by
   rcases Nat.lt_or_ge j n with h | h
   ·exact h
   ·exact absurd hj (tail_waits hs hc hn inv _ i rfl hin hun j h)
  refine ⟨hjn, ?_⟩
  by_cases hji : j = i
  ·subst hji; exact hy.qOp hi H
  ·have h1 := (H.2 j (ready_mono hj hji)).2
   obtain ⟨hjun, oj, hoj, hall⟩ := mem_ready.1 hj
   have hnot : ∀ e ∈ oj.after, Region.binds md e = true → e.on ≠ i := fun e he hb heq => by
    have h1 := hall e he hb
    rw [heq, getD_both hun] at h1
    cases h1
   have h2 := qOp_put hoj (hfree j oj hoj hji hjun hnot) (fun cs b => hsel i oi cs b hi) (fun cs b => hsel j oj cs b hoj) hy h1
   have hfree' : ∀ k ok, ops[k]? = some ok → k ≠ i → (listed.setIfInBounds j true).getD k true = false →
     (∀ e ∈ ok.after, Region.binds md e = true → e.on ≠ i) → oi.apart ops ok = true := fun k ok hk hki hun hno => by
    refine hfree k ok hk hki ?_ hno
    by_cases hjk : j = k
    ·subst hjk; exact hjun
    ·rw [getD_set_ne true hjk] at hun; exact hun
   refine qOp_mono (fun a' h3 => ih (listed.setIfInBounds j true) a' (inv.set hj hjn) hfree' (ready_mono hr (Ne.symm hji)) h3.1 ?_) h2
   rw [Array.setIfInBounds_comm _ _ hji]
   exact h3.2
theorem anyHead_lex {n g : Nat} {Lq : Act → Prop} (hsel : Region.noSelect ops = true) (hs : Region.sinkB md ops n = true) (hc : Region.chainB md ops n = true) (hn : n < ops.size) :
  ∀ (l : List Oper) (k : Nat) (listed : Array Bool) (a : Act), (∀ j, j < l.length → l[j]? = ops[k + j]?) → k + l.length = n → HeadInv md ops n listed →
  Region.lexHead md ops g l.length k listed = true → wpQuiet P ops C Lq l a →
  anyHead P md ops C n (fun listed' a' => Region.seqB md ops g n listed' = true ∧ Lq a') l.length listed a
 | [], k, listed, a, _, hk, _, hB, h => by
  have : k = n := by simpa using hk
  subst this
  exact ⟨by simpa [Region.lexHead] using hB, h⟩
 | o :: l, k, listed, a, hl, hk, inv, hB, h => by
  have h0 : ops[k]? = some o := by simpa using (hl 0 (by simp)).symm
  simp only [List.length_cons, Region.lexHead, Bool.and_eq_true] at hB
  obtain ⟨⟨hr, hf⟩, hB'⟩ := hB
  have hkn : k < n := by simp only [List.length_cons] at hk; omega
  have hr' : k ∈ Region.ready md ops listed := by simpa using hr
  have hst : qOp P ops C k (wpQuiet P ops C Lq l) a := by unfold qOp; simp only [h0]; exact h
  obtain ⟨v, hy, hK⟩ := yieldsIn_of_qOp h0 hst
  exact anyHead_first h0 (Region.noSelect_spec hsel) hs hc hn hkn (fun listed' a' hL => seqB_ready hL.1) l.length listed a inv (Region.free_spec h0 hf) hr' hy
   (anyHead_lex hsel hs hc hn l (k + 1) _ _ (fun j hj => by have := hl (j + 1) (by simp; omega); simpa [Nat.add_assoc, Nat.add_comm 1 j] using this) (by simp only [List.length_cons] at hk; omega) (inv.set hr' hkn) hB' hK)
theorem zdt {Q Q' : Act → Prop} (h : ∀ a, Q a → Q' a) : ∀ (l : List Oper) (a : Act), wpQuiet P ops C Q l a → wpQuiet P ops C Q' l a
 | [], _, hq => h _ hq
 | o :: l, a, hq => by
  unfold wpQuiet at hq ⊢
  split
  ·rename_i hw; rw [if_pos hw] at hq; exact Oper.quiet_mono (zdt h l) hq
  ·rename_i hw; rw [if_neg hw] at hq; exact zdt h l _ hq
theorem wp_region_quiet_tail {id : Nat} {Q : Exit → Act → World → Prop} {a : Act} {w : World} {l : List Oper} (n : Nat) (hm : P.follows .mixedOrders = true) (hB : Region.lexTailB .any l.toArray n = true)
  (hC : C { w with drawn := w.drawn + 1 })
  (h : wpQuiet P l.toArray C (fun a' => ∀ w', C w' → wpList P l.toArray Q (l.drop n) a' w') (l.take n) a) : (Code.region id l.toArray true).wp P Q a w := by
 simp only [Region.lexTailB, Bool.and_eq_true, decide_eq_true_eq] at hB
 obtain ⟨⟨⟨⟨hsel, hn⟩, hs⟩, hc⟩, hlex⟩ := hB
 have hn' : n < l.length := by simpa using hn
 have htl : (l.take n).length = n := by simp; omega
 have hdl : (l.drop n).length = l.toArray.size - n := by simp
 have inv0 : HeadInv .any l.toArray n (Array.replicate l.toArray.size false) :=
  ⟨by simp, fun j oj _ hl => (by rw [getD_replicate_false] at hl; cases hl), fun t _ ht => getD_in (by simpa using ht) (getD_replicate_false _ _)⟩
 have H := anyHead_lex (C := C) (md := .any) (g := l.toArray.size - n) hsel hs hc hn (l.take n) 0 _ a (fun j hj => by
  have hj' : j < n := by rw [htl] at hj; exact hj
  simp [hj']) (by simpa using htl) inv0 (by rw [htl]; exact hlex) h
 refine wp_region_any hm ?_
 have := anyHead_any (Q' := Q) (g := l.toArray.size - n) (fun listed a' w' hw' hL => by
  have := wpAny_of_seq (md := .any) (Q' := Q) (l.drop n) n listed a' w' (fun j => by simp [List.getElem?_drop]) (by rw [hdl]; exact hL.1) (hL.2 w' hw')
  rwa [hdl] at this) _ _ _ _ hC H
 rw [htl, show n + (l.toArray.size - n) = l.toArray.size by omega] at this
 exact this
end
def redrawn (w : World) (d : Nat) : World := w.drewN d
theorem za2 (w : World) (d : Nat) (os : Array Obj) : Ext w (Sort.grow (redrawn w d) os) :=
 ⟨⟨rfl, rfl, rfl, by simp [Sort.grow, redrawn, World.drewN], fun k hk => by simp [Sort.grow, redrawn, World.drewN, Array.getElem?_append, hk]⟩, by simp [Sort.grow, redrawn, World.drewN]⟩
theorem regrown_of_below {w w' : World} (h : Ext w w') : ∃ p : Regrown, w' = Sort.grow (redrawn w p.d) p.os := by
 obtain ⟨q, hq⟩ := Go.regrown_of_below h.toBelow
 refine ⟨⟨w'.drawn - w.drawn, q.os⟩, ?_⟩
 have hd := h.drawn
 rw [hq] at hd ⊢
 simp only [Sort.grow, redrawn, Go.redrawn, World.drewN] at hd ⊢
 congr 1
 omega
theorem zaa {w : World} {a : Addr} {v : Value} (h : w.cell? a = some v) (d : Nat) (os : Array Obj) : (Sort.grow (redrawn w d) os).cell? a = some v := by
 rw [(za2 w d os).toBelow.cell (block_lt_of_cell h)]; exact h
theorem Calls.regrown_of {P : Program} {f : FuncId} {args : Array Value} {w : World} {d : Nat} {os : Array Obj} {v : Value}
  (h : Calls P f args (Sort.grow (redrawn w d) os) fun e w' => e = .returned v ∧ Ext (Sort.grow (redrawn w d) os) w') : Calls P f args (Sort.grow (redrawn w d) os) fun e w'' => e = .returned v ∧ ∃ p : Regrown, w'' = Sort.grow (redrawn w p.d) p.os :=
 h.mono fun _ _ ⟨he, hb⟩ => ⟨he, regrown_of_below ((za2 w d os).trans hb)⟩
abbrev Later (w : World) : World → Prop := fun w' => ∃ p : Regrown, w' = Sort.grow (redrawn w p.d) p.os
theorem Later.start (w : World) : Later w { w with drawn := w.drawn + 1 } := ⟨⟨1, #[]⟩, by rw [Sort.grow_empty]; rfl⟩
theorem Later.ext {w w' : World} (h : Later w w') : Ext w w' := by obtain ⟨p, rfl⟩ := h; exact za2 w p.d p.os
theorem zae {P : Program} {id : Nat} {Q : Exit → Act → World → Prop} {a : Act} {w : World} {l : List Oper} (hm : P.follows .mixedOrders = true) (hB : Region.lexB .any l.toArray = true)
  (h : wpQuiet P l.toArray (fun w' => ∃ p : Regrown, w' = Sort.grow (redrawn w p.d) p.os) (fun a' => ∀ w', Ext w w' → Q .normal a' w') l a) : (Code.region id l.toArray true).wp P Q a w :=
 wp_region_quiet (C := Later w) hm hB (Later.start w) (by simpa using zdt (fun _ h w' hw => h w' (Later.ext hw)) _ _ h)
theorem zcx {P : Program} {id : Nat} {Q : Exit → Act → World → Prop} {a : Act} {w : World} {l : List Oper} (n : Nat) (hm : P.follows .mixedOrders = true) (hB : Region.lexTailB .any l.toArray n = true)
  (h : wpQuiet P l.toArray (fun w' => ∃ p : Regrown, w' = Sort.grow (redrawn w p.d) p.os) (fun a' => ∀ w', Ext w w' → wpList P l.toArray Q (l.drop n) a' w') (l.take n) a) : (Code.region id l.toArray true).wp P Q a w :=
 wp_region_quiet_tail (C := Later w) n hm hB (Later.start w) (zdt (fun _ h w' hw => h w' (Later.ext hw)) _ _ h)
theorem zan {P : Program} {f : FuncId} {args : Array Value} {w : World} {v : Value} (h : ∀ w1, Ext w w1 → Calls P f args w1 fun e w' => e = .returned v ∧ Ext w1 w') (d : Nat) (os : Array Obj) :
  Calls P f args (Sort.grow (redrawn w d) os) fun e w'' => e = .returned v ∧ ∃ p : Regrown, w'' = Sort.grow (redrawn w p.d) p.os :=
 Calls.regrown_of (h _ (za2 w d os))
theorem later_same {P : Program} {f : FuncId} {args : Array Value} {w : World} {v : Value} (h : ∀ w1, Calls P f args w1 fun e w' => e = .returned v ∧ w1 = w') (d : Nat) (os : Array Obj) :
  Calls P f args (Sort.grow (redrawn w d) os) fun e w'' => e = .returned v ∧ ∃ p : Regrown, w'' = Sort.grow (redrawn w p.d) p.os :=
 (h _).mono fun _ _ ⟨he, hw⟩ => ⟨he, ⟨⟨d, os⟩, hw.symm⟩⟩
end Go.Proofs.YtbkaffhbhimglaaGreat

/-
  What the library's comparisons, and the small functions on values, come to. The conditions: none beyond each contract's own.
-/
namespace Go.Proofs.YtbkaffhbhimglaaGreat
open Go.RowKit
open Lib renaming hid → q_
theorem zag {k : IntKind} {a b : Int} (h : a = b) : Ending.returned (.int k a) = .returned (.int k b) := by rw [h]
theorem zal {a b : Bool} (h : a = b) : Ending.returned (.bool a) = .returned (.bool b) := by rw [h]
theorem zad {w : World} {g : Nat} {o : Obj} (h : w.heap[g]? = some o) : g < w.heap.size := by
 rcases Nat.lt_or_ge g w.heap.size with hlt | hge
 ·exact hlt
 ·rw [Array.getElem?_eq_none hge] at h; cases h
theorem isNaN_int (a : Int) (w : World) : Calls Tryz.prog 148 #[.int .i64 a] w fun e w' => e = .returned (.bool false) ∧ w = w' := by
 go_enter Tryz.func148, Tryz.ntmps148
 go_wp2
 go_ret
 exact ⟨rfl, rfl⟩
theorem isNaN_int64 (a : Int) (w : World) : Calls Tryz.prog 149 #[.int .i64 a] w fun e w' => e = .returned (.bool false) ∧ w = w' := by
 go_enter Tryz.func149, Tryz.ntmps149
 go_wp2
 go_ret
 exact ⟨by simp, rfl⟩
theorem isNaN_string (a : ByteArray) (w : World) : Calls Tryz.prog 109 #[.string a] w fun e w' => e = .returned (.bool false) ∧ w = w' := by
 go_enter Tryz.func109, Tryz.ntmps109
 go_wp2
 go_ret
 exact ⟨by simp, rfl⟩
theorem compare_int (a b : Int) (w : World) : Calls Tryz.prog 122 #[.int .i64 a, .int .i64 b] w fun e w' => e = .returned (.int .i64 (cmpI a b)) ∧ w = w' := by
 go_enter Tryz.func122, Tryz.ntmps122
 go_wp2_with (go_at_call 148; refine (isNaN_int _ _).mono ?_; rintro e w' ⟨rfl, rfl⟩)
 ·go_ret
  have h : a < b := by assumption
  exact ⟨zag (by simp [cmpI, h]), rfl⟩
 ·go_ret
  have h : b < a := by assumption
  exact ⟨zag (by rw [cmpI, if_neg (by omega), if_pos h]), rfl⟩
 ·go_ret
  exact ⟨zag (by rw [cmpI, if_neg (by omega), if_neg (by omega)]), rfl⟩
theorem compare_int64 (a b : Int) (w : World) : Calls Tryz.prog 124 #[.int .i64 a, .int .i64 b] w fun e w' => e = .returned (.int .i64 (cmpI a b)) ∧ w = w' := by
 go_enter Tryz.func124, Tryz.ntmps124
 go_wp2_with (go_at_call 149; refine (isNaN_int64 _ _).mono ?_; rintro e w' ⟨rfl, rfl⟩)
 ·go_ret
  have h : a < b := by assumption
  exact ⟨zag (by simp [cmpI, h]), rfl⟩
 ·go_ret
  have h : b < a := by assumption
  exact ⟨zag (by rw [cmpI, if_neg (by omega), if_pos h]), rfl⟩
 ·go_ret
  exact ⟨zag (by rw [cmpI, if_neg (by omega), if_neg (by omega)]), rfl⟩
theorem zcb (a b : ByteArray) (w : World) : Calls Tryz.prog 82 #[.string a, .string b] w fun e w' => e = .returned (.int .i64 (cmpS a b)) ∧ w = w' := by
 go_enter Tryz.func82, Tryz.ntmps82
 go_wp2_with (go_at_call 109; refine (isNaN_string _ _).mono ?_; rintro e w' ⟨rfl, rfl⟩)
 ·go_ret
  have h : Op.bytesLess a.toList b.toList = true := by assumption
  rw [zd7] at h
  exact ⟨zag (by rw [cmpS]; simp at h; omega), rfl⟩
 ·go_ret
  have h : Op.bytesLess a.toList b.toList = false := by assumption
  have h2 : (!a.toList == b.toList) = true := by assumption
  rw [zd7] at h
  have hr := cmpL_range a.toList b.toList
  have h0 : cmpL a.toList b.toList ≠ 0 := fun e => by simp [cmpL_eq _ _ e] at h2
  exact ⟨zag (by rw [cmpS]; simp at h; omega), rfl⟩
 ·go_ret
  have h2 : (!a.toList == b.toList) = false := by assumption
  exact ⟨zag (by rw [cmpS]; simp at h2; rw [h2, cmpL_refl]), rfl⟩
theorem bit_ok (b : Bool) (w : World) : Calls Tryz.prog 123 #[.bool b] w fun e w' => e = .returned (.int .i64 (bit b)) ∧ w = w' := by
 cases b
 all_goals
  go_enter Tryz.func123, Tryz.ntmps123
  go_wp2
  go_ret
  exact ⟨rfl, rfl⟩
theorem or_two (a b : Int) (g : Nat) (w : World) (c0 : w.cell? ⟨g, 0, none⟩ = some (.int .i64 a)) (c1 : w.cell? ⟨g, 1, none⟩ = some (.int .i64 b)) :
  Calls Tryz.prog 81 #[.slice (some ⟨g, 0, none⟩) 2 2] w fun e w' => e = .returned (.int .i64 (zeb a b)) ∧ w = w' := by
 by_cases ha : a = 0
 ·subst ha
  have e0 : ((0 : Int) != 0) = false := rfl
  by_cases hb : b = 0
  ·subst hb
   go_enter Tryz.func81, Tryz.ntmps81
   go_wp2
   refine wp_loop_rounds 3 ?_
   rw [rounds_succ]
   go_wp2
   rw [rounds_succ]
   go_wp2
   rw [rounds_succ]
   go_wp2
   go_ret
   exact ⟨zag (by simp [zeb]), rfl⟩
  ·have e1 : (b != 0) = true := by simpa using hb
   have H := q_ hb
   clear hb
   go_enter Tryz.func81, Tryz.ntmps81
   go_wp2
   refine wp_loop_rounds 3 ?_
   rw [rounds_succ]
   go_wp2
   rw [rounds_succ]
   go_wp2
   go_ret
   exact ⟨zag (by simp [zeb]), rfl⟩
 ·have e1 : (a != 0) = true := by simpa using ha
  have H := q_ ha
  clear ha
  go_enter Tryz.func81, Tryz.ntmps81
  go_wp2
  refine wp_loop_rounds 3 ?_
  rw [rounds_succ]
  go_wp2
  go_ret
  exact ⟨zag (by simp [zeb, H.out]), rfl⟩
theorem uids_ok (t1 i1 t2 i2 : ByteArray) (w : World) : Calls Tryz.prog 125 #[.agg #[.string t1, .string i1], .agg #[.string t2, .string i2]] w fun e w' =>
  e = .returned (.int .i64 (zeb (cmpS t1 t2) (cmpS i1 i2))) ∧ Ext w w' := by
 go_enter Tryz.func125, Tryz.ntmps125
 go_wp2
 obtain ⟨w1, hw1⟩ : ∃ w1, w1 = (w.alloc (.cells #[.string t1, .string i1] 43)).alloc (.cells #[.string t2, .string i2] 43) := ⟨_, rfl⟩
 rw [← hw1]
 have c0 := zaa (show w1.cell? ⟨w.heap.size, 0, none⟩ = some (.string t1) by rw [hw1]; go_simp)
 have c1 := zaa (show w1.cell? ⟨w.heap.size, 1, none⟩ = some (.string i1) by rw [hw1]; go_simp)
 have c2 := zaa (show w1.cell? ⟨w.heap.size + 1, 0, none⟩ = some (.string t2) by rw [hw1]; go_simp)
 have c3 := zaa (show w1.cell? ⟨w.heap.size + 1, 1, none⟩ = some (.string i2) by rw [hw1]; go_simp)
 have hx : Ext w w1 := by rw [hw1]; exact ((Ext.refl w).alloc _).alloc _
 have HX := q_ hx
 clear hw1 hx
 refine zcx 10 (by kernel_rfl) (by kernel_rfl) ?_
 simp only [List.take_succ_cons, List.take_zero, List.drop_succ_cons, List.drop_zero]
 repeat (quiet_step (first | exact later_same (zcb _ _) _ _))
 refine wpQuiet_nil ?_
 intro w2 hw2
 have HX2 := q_ hw2
 clear hw2 c0 c1 c2 c3
 go_wp2_with (go_at_call 81; refine (or_two (cmpS t1 t2) (cmpS i1 i2) _ _ (by go_simp) (by go_simp)).mono ?_; rintro e w' ⟨rfl, rfl⟩)
 go_ret
 exact ⟨rfl, (HX.out.trans HX2.out).alloc _⟩
end Go.Proofs.YtbkaffhbhimglaaGreat

/-
  What the program's order of values comes to. The conditions: none beyond each contract's own (the values lie in memory as they should).
-/
namespace Go.Proofs.YtbkaffhbhimglaaGreat
open Go.RowKit
open Lib renaming hid → q_
set_option maxRecDepth 100000
set_option maxHeartbeats 400000
def ValsAt (S : Nat → Prop) (w : World) (l : List Val) (v : Value) : Prop :=
 ∃ A cap, v = .slice A l.length cap ∧ (l.length ≤ LIM ∧ l.length ≤ cap ∧ cap ≤ maxLen) ∧ (0 < l.length → ∃ b o, A = some ⟨b, o, none⟩ ∧ S b ∧ Val.RowAt S w l b o)
theorem ValsAt.alike {S : Nat → Prop} {w w' : World} {l : List Val} {v : Value} (h : ValsAt S w l v) (k : Alike S w w') : ValsAt S w' l v := by
 obtain ⟨A, cap, h1, h2, h5⟩ := h
 exact ⟨A, cap, h1, h2, fun hn => let ⟨b, o, e, hs, hc⟩ := h5 hn; ⟨b, o, e, hs, hc.alike k hs⟩⟩
theorem Val.At.shape {S : Nat → Prop} {w : World} {v : Val} {cs : List Value} (h : Val.At S w v cs) :
  ∃ k b n t ut ui A l c A2 l2 c2, cs = [.int .i64 k, .bool b, .int .i64 n, .string t, .string ut, .string ui, .slice A l c, .slice A2 l2 c2] := by
 cases v; unfold Val.At at h
 obtain ⟨A, cap, nv, rfl, _, _, _, A2, c2, rfl, _⟩ := h
 exact ⟨_, _, _, _, _, _, _, _, _, _, _, _, rfl⟩
theorem zak : LIM = 1073741824 := rfl
theorem zab : maxLen = 9223372036854775807 := by unfold maxLen; rfl
theorem zai : ∀ w, (isAgg 46).run Tryz.prog w = .ok true w := fun _ => by kernel_rfl
theorem zaf : ∀ w, (Go.sizeOf 46).run Tryz.prog w = .ok 8 w := fun _ => by kernel_rfl
theorem lexL_drop {α : Type} {c : α → α → Int} : ∀ {k : Nat} {l m : List α}, k ≤ l.length → k ≤ m.length → (∀ i x y, i < k → l[i]? = some x → m[i]? = some y → c x y = 0) → lexL c l m = lexL c (l.drop k) (m.drop k)
 | 0, _, _, _, _, _ => by simp
 | k + 1, [], _, h, _, _ => by simp at h
 | k + 1, _ :: _, [], _, h, _ => by simp at h
 | k + 1, x :: r, y :: s, h1, h2, h => by
  have h0 := h 0 x y (by omega) rfl rfl
  simp only [lexL, zeb, h0, if_true, List.drop_succ_cons]
  exact lexL_drop (by simpa using h1) (by simpa using h2) fun i a b hi ha hb => h (i + 1) a b (by omega) (by simpa using ha) (by simpa using hb)
theorem lexL_at {α : Type} {c : α → α → Int} {k : Nat} {l m : List α} {x y : α} (hx : l[k]? = some x) (hy : m[k]? = some y)
  (h : ∀ i x y, i < k → l[i]? = some x → m[i]? = some y → c x y = 0) (hc : c x y ≠ 0) : lexL c l m = c x y := by
 obtain ⟨h1, rfl⟩ := List.getElem?_eq_some_iff.1 hx
 obtain ⟨h2, rfl⟩ := List.getElem?_eq_some_iff.1 hy
 rw [lexL_drop (by omega) (by omega) h, List.drop_eq_getElem_cons h1, List.drop_eq_getElem_cons h2]
 simp only [lexL, zeb]
 rw [if_neg hc]
theorem lexL_long {α : Type} {c : α → α → Int} {l m : List α} (hl : m.length < l.length) (h : ∀ i x y, i < m.length → l[i]? = some x → m[i]? = some y → c x y = 0) : lexL c l m = 1 := by
 rw [lexL_drop (k := m.length) (by omega) (by omega) h, List.drop_eq_getElem_cons hl]
 rw [List.drop_length]; rfl
theorem zdv {α : Type} {c : α → α → Int} {l m : List α} (hl : l.length ≤ m.length) (h : ∀ i x y, i < l.length → l[i]? = some x → m[i]? = some y → c x y = 0) :
  lexL c l m = if l.length < m.length then -1 else 0 := by
 rw [lexL_drop (k := l.length) (by omega) hl h, List.drop_length]
 cases he : m.drop l.length with
 | nil =>
  have := List.drop_eq_nil_iff.1 he
  simp [lexL]; omega
 | cons y s =>
  have : m.length > l.length := by
   rcases Nat.lt_or_ge l.length m.length with h | h
   ·exact h
   ·rw [List.drop_eq_nil_iff.2 h] at he; cases he
  simp [lexL, this]
theorem named_ok (k : Int) (bo : Bool) (n : Int) (t ut ui : ByteArray) (A A2 : Option Addr) (cap cap2 l l2 : Nat) (w : World) (hl : l ≤ cap) (_hc : cap ≤ maxLen) (hl2 : l2 ≤ maxLen) :
  Calls Tryz.prog 128 #[.agg #[.int .i64 k, .bool bo, .int .i64 n, .string t, .string ut, .string ui, .slice A l cap, .slice A2 l2 cap2]] w fun e w' =>
   e = .returned (.slice A (min l l2) cap) ∧ Ext w w' := by
 unfold maxLen at *
 go_enter Tryz.func128, Tryz.ntmps128
 go_wp2
 ·go_ret
  have h : l2 < l := by assumption
  rw [Nat.min_eq_right (by omega)]
  exact ⟨rfl, (Ext.refl w).alloc _⟩
 ·go_ret
  have h : ¬ l2 < l := by assumption
  rw [Nat.min_eq_left (by omega)]
  exact ⟨rfl, (Ext.refl w).alloc _⟩
theorem compareFunc_ok (S : Nat → Prop) (l m : List Val) (v v' : Value) (w : World) (hS : ∀ b, S b → b < w.heap.size) (hl : ValsAt S w l v) (hm : ValsAt S w m v')
  (hc : ∀ x ∈ l, ∀ y ∈ m, ∀ (w1 : World) (cx cy : List Value), (∀ b, S b → b < w1.heap.size) → Val.At S w1 x cx → Val.At S w1 y cy →
   Calls Tryz.prog 95 #[.agg cx.toArray, .agg cy.toArray] w1 fun e w' => e = .returned (.int .i64 (x.ord y)) ∧ Ext w1 w') :
  Calls Tryz.prog 126 #[v, v', .func (.func 95) #[] #[]] w fun e w' =>
   e = .returned (.int .i64 (lexL Val.ord l m)) ∧ Ext w w' := by
 obtain ⟨A, cap, rfl, ⟨hl0, hl1, hl2⟩, hlr⟩ := hl
 obtain ⟨B, cap', rfl, ⟨hm0, hm1, hm2⟩, hmr⟩ := hm
 rw [zak] at hl0 hm0
 rw [zab] at hl2 hm2
 have HS := q_ hS
 have HC := q_ hc
 have HL := q_ hlr
 have HM := q_ hmr
 clear hS hc hlr hmr
 go_enter Tryz.func126, Tryz.ntmps126
 go_wp2_with fail
 go_loopw [13] (fun i wr => ∃ k : Nat, k ≤ l.length ∧ k ≤ m.length ∧ i = .int .i64 k ∧ Ext w wr ∧ Hid (∀ i x y, i < k → l[i]? = some x → m[i]? = some y → x.ord y = 0)) (fun i _ => l.length - (intOf i).toNat)
 case atStart => exact ⟨0, Nat.zero_le _, Nat.zero_le _, rfl, Ext.refl w, fun _ _ _ h => by omega⟩
 case round =>
  obtain ⟨k, hk, hkm, rfl, hext, Hall⟩ := hrel
  have HX := q_ hext
  have HSr := q_ (show ∀ b, S b → b < wr.heap.size from fun b hb => Nat.lt_of_lt_of_le (HS.out b hb) hext.size)
  clear hext
  by_cases hlt : k < l.length
  ·obtain ⟨b, o, rfl, hSb, hrow⟩ := HL.out (by omega)
   obtain ⟨x, hx⟩ : ∃ x, l[k]? = some x := ⟨_, List.getElem?_eq_getElem hlt⟩
   obtain ⟨cs, hcl, hca, hxa⟩ := hrow.get hx
   have Hca := q_ (hca.alike hSb (Alike.of_ext HX.out HS.out))
   have Hxa := q_ (hxa.alike (Alike.of_ext HX.out HS.out))
   have Hx := q_ hx
   have Hcl := q_ hcl
   clear hx hxa hca hrow hcl hSb
   by_cases hlm : k < m.length
   ·obtain ⟨b', o', rfl, hSb', hrow'⟩ := HM.out (by omega)
    obtain ⟨y, hy⟩ : ∃ y, m[k]? = some y := ⟨_, List.getElem?_eq_getElem hlm⟩
    obtain ⟨cs', hcl', hca', hya⟩ := hrow'.get hy
    have Hcb := q_ (hca'.alike hSb' (Alike.of_ext HX.out HS.out))
    have Hyb := q_ (hya.alike (Alike.of_ext HX.out HS.out))
    have Hy := q_ hy
    have Hcl' := q_ hcl'
    have HSb' := q_ hSb'
    clear hy hya hca' hrow' hcl' hSb'
    obtain ⟨k1, b1, n1, t1, ut1, ui1, A1, l1, c1, A2, l2, c2, rfl⟩ := Hxa.out.shape
    obtain ⟨k3, b3, n3, t3, ut3, ui3, A3, l3, c3, A4, l4, c4, rfl⟩ := Hyb.out.shape
    go_wp2_with (first | refine zac rfl 46 _ rfl b (o + k * 8) rfl zai zaf Hcl.out Hca.out ?_ | refine zac rfl 46 _ rfl b' (o' + k * 8) rfl zai zaf Hcl'.out (Hcb.out.alloc (Nat.lt_of_lt_of_le (HS.out _ HSb'.out) HX.out.size) _) ?_ | (go_at_call 95; refine (HC.out x (List.mem_of_getElem? Hx.out) y (List.mem_of_getElem? Hy.out) _ [_, _, _, _, _, _, _, _] [_, _, _, _, _, _, _, _] (fun b hb => Nat.lt_of_lt_of_le (HS.out b hb) (((Ext.refl _).trans HX.out).alloc _ |>.alloc _).size) (Hxa.out.alike (Alike.of_ext (((Ext.refl _).alloc _).alloc _) HSr.out)) (Hyb.out.alike (Alike.of_ext (((Ext.refl _).alloc _).alloc _) HSr.out))).mono ?_; rintro e w' ⟨rfl, hx2⟩; have HX2 := q_ hx2; clear hx2))
    ·have hne : (x.ord y != 0) = true := by assumption
     go_ret
     exact ⟨zag (lexL_at Hx.out Hy.out Hall.out (by simpa using hne)).symm, (((HX.out.alloc _).alloc _).trans HX2.out)⟩
    ·have hne : (x.ord y != 0) = false := by assumption
     go_roundw
     case rel => exact ⟨k + 1, by omega, by omega, by go_num, (((HX.out.alloc _).alloc _).trans HX2.out), fun i p q hi hp hq => by
      by_cases hik : i = k
      ·subst hik; rw [Hx.out] at hp; rw [Hy.out] at hq; cases hp; cases hq; simpa using hne
      ·exact Hall.out i p q (by omega) hp hq⟩
     case measure => simp [intOf]; omega
   ·obtain ⟨k1, b1, n1, t1, ut1, ui1, A1, l1, c1, A2, l2, c2, rfl⟩ := Hxa.out.shape
    go_wp2_with (first | refine zac rfl 46 _ rfl b (o + k * 8) rfl zai zaf Hcl.out Hca.out ?_)
    go_ret
    have hke : k = m.length := by omega
    subst hke
    exact ⟨zag (lexL_long (by omega) Hall.out).symm, HX.out.alloc _⟩
  ·have hke : k = l.length := by omega
   subst hke
   by_cases hlm : l.length < m.length
   ·go_wp2_with fail
    go_ret
    exact ⟨zag (by rw [zdv (by omega) Hall.out, if_pos hlm]), HX.out⟩
   ·go_wp2_with fail
    go_ret
    exact ⟨zag (by rw [zdv (by omega) Hall.out, if_neg hlm]), HX.out⟩
theorem compareStrs_ok (S : Nat → Prop) (l m : List ByteArray) (v v' : Value) (w : World) (_hS : ∀ b, S b → b < w.heap.size) (hl : StrsAt S w l v) (hm : StrsAt S w m v') :
  Calls Tryz.prog 127 #[v, v'] w fun e w' => e = .returned (.int .i64 (lexL cmpS l m)) ∧ w = w' := by
 obtain ⟨A, cap, rfl, hl0, hl1, hl2, hls, hlr⟩ := hl
 obtain ⟨B, cap', rfl, hm0, hm1, hm2, hms, hmr⟩ := hm
 rw [zak] at hl0 hm0
 rw [zab] at hl2 hm2
 have HL := q_ hlr
 have HM := q_ hmr
 clear _hS hlr hmr hls hms
 go_enter Tryz.func127, Tryz.ntmps127
 go_wp2_with fail
 go_loop [11] (fun i => ∃ k : Nat, k ≤ l.length ∧ k ≤ m.length ∧ i = .int .i64 k ∧ Hid (∀ i x y, i < k → l[i]? = some x → m[i]? = some y → cmpS x y = 0)) (fun i => l.length - (intOf i).toNat)
 case atStart => exact ⟨0, Nat.zero_le _, Nat.zero_le _, rfl, fun _ _ _ h => by omega⟩
 case round =>
  obtain ⟨k, hk, hkm, rfl, Hall⟩ := hrel
  by_cases hlt : k < l.length
  ·obtain ⟨b, o, rfl, hSb, hrow⟩ := HL.out (by omega)
   obtain ⟨x, hx⟩ : ∃ x, l[k]? = some x := ⟨_, List.getElem?_eq_getElem hlt⟩
   have hcx := hrow k (.string x) (by simp [hx])
   have Hx := q_ hx
   clear hx hrow hSb
   by_cases hlm : k < m.length
   ·obtain ⟨b', o', rfl, hSb', hrow'⟩ := HM.out (by omega)
    obtain ⟨y, hy⟩ : ∃ y, m[k]? = some y := ⟨_, List.getElem?_eq_getElem hlm⟩
    have hcy := hrow' k (.string y) (by simp [hy])
    have Hy := q_ hy
    clear hy hrow' hSb'
    go_wp2_with (go_at_call 82; refine (zcb _ _ _).mono ?_; rintro e w' ⟨rfl, rfl⟩)
    ·have hne : (cmpS x y != 0) = true := by assumption
     go_ret
     exact ⟨zag (lexL_at Hx.out Hy.out Hall.out (by simpa using hne)).symm, rfl⟩
    ·have hne : (cmpS x y != 0) = false := by assumption
     go_round
     case rel => exact ⟨k + 1, by omega, by omega, by go_num, fun i p q hi hp hq => by
      by_cases hik : i = k
      ·subst hik; rw [Hx.out] at hp; rw [Hy.out] at hq; cases hp; cases hq; simpa using hne
      ·exact Hall.out i p q (by omega) hp hq⟩
     case measure => simp [intOf]; omega
   ·go_wp2_with fail
    go_ret
    have hke : k = m.length := by omega
    subst hke
    exact ⟨zag (lexL_long (by omega) Hall.out).symm, rfl⟩
  ·have hke : k = l.length := by omega
   subst hke
   by_cases hlm : l.length < m.length
   ·go_wp2_with fail
    go_ret
    exact ⟨zag (by rw [zdv (by omega) Hall.out, if_pos hlm]), rfl⟩
   ·go_wp2_with fail
    go_ret
    exact ⟨zag (by rw [zdv (by omega) Hall.out, if_neg hlm]), rfl⟩
end Go.Proofs.YtbkaffhbhimglaaGreat

/-
  What value.Order, value.Same and value.Depth come to. The conditions: none beyond each contract's own (the values lie in memory as they should).
-/
namespace Go.Proofs.YtbkaffhbhimglaaGreat
open Go.RowKit
open Lib renaming hid → q_
set_option maxRecDepth 100000
set_option maxHeartbeats 1600000
theorem row_take {S : Nat → Prop} {w : World} {l : List Val} {b o : Nat} (h : Val.RowAt S w l b o) (n : Nat) : Val.RowAt S w (l.take n) b o :=
 Val.RowAt.mk fun i x hx => by
  rw [List.getElem?_take] at hx
  split at hx
  ·exact h.get hx
  ·cases hx
theorem ValsAt.take {S : Nat → Prop} {w : World} {l : List Val} {A : Option Addr} {cap : Nat} (h : ValsAt S w l (.slice A l.length cap)) (n : Nat) : ValsAt S w (l.take n) (.slice A (min l.length n) cap) := by
 obtain ⟨A', cap', he, ⟨h1, h2, h3⟩, hr⟩ := h
 injection he with hA _ hc
 subst hA hc
 refine ⟨A, cap, by rw [List.length_take, Nat.min_comm], ⟨by rw [List.length_take]; omega, by rw [List.length_take]; omega, h3⟩, fun hn => ?_⟩
 rw [List.length_take] at hn
 obtain ⟨b, o, e, hs, hrow⟩ := hr (by omega)
 exact ⟨b, o, e, hs, row_take hrow n⟩
theorem Val.At.vals {S : Nat → Prop} {w : World} {k : Int} {bo : Bool} {i : Int} {t ut ui : ByteArray} {items : List Val} {names : List ByteArray} {v0 v1 v2 v3 v4 v5 v6 v7 : Value}
  (h : Val.At S w (.mk k bo i t ut ui items names) [v0, v1, v2, v3, v4, v5, v6, v7]) : ValsAt S w items v6 := by
 unfold Val.At at h
 obtain ⟨A, cap, nv, he, _, hb, hr, _⟩ := h
 simp only [List.cons.injEq] at he
 exact ⟨A, cap, he.2.2.2.2.2.2.1, hb, hr⟩
theorem Val.At.strs {S : Nat → Prop} {w : World} {k : Int} {bo : Bool} {i : Int} {t ut ui : ByteArray} {items : List Val} {names : List ByteArray} {v0 v1 v2 v3 v4 v5 v6 v7 : Value}
  (h : Val.At S w (.mk k bo i t ut ui items names) [v0, v1, v2, v3, v4, v5, v6, v7]) : StrsAt S w names v7 := by
 unfold Val.At at h
 obtain ⟨A, cap, nv, he, _, _, _, hs⟩ := h
 simp only [List.cons.injEq] at he
 rw [he.2.2.2.2.2.2.2.1]; exact hs
theorem order_ok (n : Nat) : ∀ (a b : Val) (S : Nat → Prop) (w : World) (ca cb : List Value), SizeOf.sizeOf a ≤ n → (∀ b, S b → b < w.heap.size) → Val.At S w a ca → Val.At S w b cb →
  Calls Tryz.prog 95 #[.agg ca.toArray, .agg cb.toArray] w fun en w' => en = .returned (.int .i64 (a.ord b)) ∧ Ext w w' := by
 induction n with
 | zero => intro a; cases a; simp
 | succ n ih =>
  intro a b S w ca cb hn hS ha hb
  have Ha := q_ ha
  have Hb := q_ hb
  have HS := q_ hS
  have Hn := q_ hn
  have IH := q_ ih
  have Hd := q_ (Val.ord_def a b)
  cases a with
  | mk k bo i t ut ui items names =>
  cases b with
  | mk k' bo' i' t' ut' ui' items' names' =>
  unfold Val.At at ha hb
  obtain ⟨A, cap, nv, rfl, _, ⟨ha1, ha2, ha3⟩, hai, A2, cap2, rfl, ha4, ha5, ha6, ha7, han⟩ := ha
  obtain ⟨B, bcap, nv, rfl, _, ⟨hb1, hb2, hb3⟩, hbi, B2, bcap2, rfl, hb4, hb5, hb6, hb7, hbn⟩ := hb
  rw [zak] at ha1 hb1 ha4 hb4
  rw [zab] at ha3 hb3 ha6 hb6
  have Hai := q_ hai
  have Hbi := q_ hbi
  have Han := q_ han
  have Hbn := q_ hbn
  clear hai hbi han hbn ha7 hb7 hS hn ih
  by_cases hkk : k = k'
  ·subst hkk
   by_cases h1 : k = 1
   ·subst h1
    go_enter Tryz.func95, Tryz.ntmps95
    go_wp2_with fail
    obtain ⟨w1, hw1⟩ : ∃ w1, w1 = (w.alloc (.cells #[.int .i64 1, .bool bo, .int .i64 i, .string t, .string ut, .string ui, .slice A items.length cap, .slice A2 names.length cap2] 46)).alloc (.cells #[.int .i64 1, .bool bo', .int .i64 i', .string t', .string ut', .string ui', .slice B items'.length bcap, .slice B2 names'.length bcap2] 46) := ⟨_, rfl⟩
    rw [← hw1]
    have c0 := zaa (show w1.cell? ⟨w.heap.size, 1, none⟩ = some (.bool bo) by rw [hw1]; go_simp)
    have c1 := zaa (show w1.cell? ⟨w.heap.size + 1, 1, none⟩ = some (.bool bo') by rw [hw1]; go_simp)
    have HX := q_ (show Ext w w1 by rw [hw1]; exact ((Ext.refl w).alloc _).alloc _)
    clear hw1
    refine zae (by kernel_rfl) (by kernel_rfl) ?_
    repeat (quiet_step (first | (go_at_call 123; exact later_same (bit_ok _) _ _) | (go_at_call 122; exact later_same (compare_int _ _) _ _)))
    refine wpQuiet_nil ?_
    intro w2 hw2
    have HX2 := q_ hw2
    clear hw2 c0 c1
    go_wp2_with fail
    go_ret
    exact ⟨zag (by rw [Hd.out]; rfl), HX.out.trans HX2.out⟩
   by_cases h2 : k = 2
   ·subst h2
    go_enter Tryz.func95, Tryz.ntmps95
    go_wp2_with (go_at_call 124; refine (compare_int64 _ _ _).mono ?_; rintro e w' ⟨rfl, rfl⟩)
    go_ret
    exact ⟨zag (by rw [Hd.out]; rfl), ((Ext.refl w).alloc _).alloc _⟩
   by_cases h3 : k = 3
   ·subst h3
    go_enter Tryz.func95, Tryz.ntmps95
    go_wp2_with (go_at_call 82; refine (zcb _ _ _).mono ?_; rintro e w' ⟨rfl, rfl⟩)
    go_ret
    exact ⟨zag (by rw [Hd.out]; rfl), ((Ext.refl w).alloc _).alloc _⟩
   by_cases h4 : k = 4
   ·subst h4
    go_enter Tryz.func95, Tryz.ntmps95
    go_wp2_with (go_at_call 125; refine (uids_ok _ _ _ _ _).mono ?_; rintro e w' ⟨rfl, hx2⟩; have HX2 := q_ hx2; clear hx2)
    go_ret
    exact ⟨zag (by rw [Hd.out]; rfl), (((Ext.refl w).alloc _).alloc _).trans HX2.out⟩
   by_cases h5 : k = 5
   ·subst h5
    go_enter Tryz.func95, Tryz.ntmps95
    go_wp2_with (go_at_call 126; refine (compareFunc_ok S items items' _ _ _ (fun b hb => Nat.lt_of_lt_of_le (HS.out b hb) (((Ext.refl w).alloc _).alloc _).size) (Ha.out.vals.alike (Alike.of_ext (((Ext.refl w).alloc _).alloc _) HS.out)) (Hb.out.vals.alike (Alike.of_ext (((Ext.refl w).alloc _).alloc _) HS.out)) (fun x hx y _ w1 cx cy hs1 hx1 hy1 => IH.out x y S w1 cx cy (by have := Hn.out; have := List.sizeOf_lt_of_mem hx; simp at *; omega) hs1 hx1 hy1)).mono ?_; rintro e w' ⟨rfl, hx2⟩; have HX2 := q_ hx2; clear hx2)
    go_ret
    exact ⟨zag (by rw [Hd.out]; rfl), (((Ext.refl w).alloc _).alloc _).trans HX2.out⟩
   by_cases h6 : k = 6
   ·subst h6
    go_enter Tryz.func95, Tryz.ntmps95
    go_wp2_with fail
    obtain ⟨w1, hw1⟩ : ∃ w1, w1 = (w.alloc (.cells #[.int .i64 6, .bool bo, .int .i64 i, .string t, .string ut, .string ui, .slice A items.length cap, .slice A2 names.length cap2] 46)).alloc (.cells #[.int .i64 6, .bool bo', .int .i64 i', .string t', .string ut', .string ui', .slice B items'.length bcap, .slice B2 names'.length bcap2] 46) := ⟨_, rfl⟩
    rw [← hw1]
    have c0 := zaa (show w1.cell? ⟨w.heap.size, 0, none⟩ = some (.int .i64 6) by rw [hw1]; go_simp)
    have c1 := zaa (show w1.cell? ⟨w.heap.size, 1, none⟩ = some (.bool bo) by rw [hw1]; go_simp)
    have c2 := zaa (show w1.cell? ⟨w.heap.size, 2, none⟩ = some (.int .i64 i) by rw [hw1]; go_simp)
    have c3 := zaa (show w1.cell? ⟨w.heap.size, 3, none⟩ = some (.string t) by rw [hw1]; go_simp)
    have c4 := zaa (show w1.cell? ⟨w.heap.size, 4, none⟩ = some (.string ut) by rw [hw1]; go_simp)
    have c5 := zaa (show w1.cell? ⟨w.heap.size, 5, none⟩ = some (.string ui) by rw [hw1]; go_simp)
    have c6 := zaa (show w1.cell? ⟨w.heap.size, 6, none⟩ = some (.slice A items.length cap) by rw [hw1]; go_simp)
    have c7 := zaa (show w1.cell? ⟨w.heap.size, 7, none⟩ = some (.slice A2 names.length cap2) by rw [hw1]; go_simp)
    have d0 := zaa (show w1.cell? ⟨w.heap.size + 1, 0, none⟩ = some (.int .i64 6) by rw [hw1]; go_simp)
    have d1 := zaa (show w1.cell? ⟨w.heap.size + 1, 1, none⟩ = some (.bool bo') by rw [hw1]; go_simp)
    have d2 := zaa (show w1.cell? ⟨w.heap.size + 1, 2, none⟩ = some (.int .i64 i') by rw [hw1]; go_simp)
    have d3 := zaa (show w1.cell? ⟨w.heap.size + 1, 3, none⟩ = some (.string t') by rw [hw1]; go_simp)
    have d4 := zaa (show w1.cell? ⟨w.heap.size + 1, 4, none⟩ = some (.string ut') by rw [hw1]; go_simp)
    have d5 := zaa (show w1.cell? ⟨w.heap.size + 1, 5, none⟩ = some (.string ui') by rw [hw1]; go_simp)
    have d6 := zaa (show w1.cell? ⟨w.heap.size + 1, 6, none⟩ = some (.slice B items'.length bcap) by rw [hw1]; go_simp)
    have d7 := zaa (show w1.cell? ⟨w.heap.size + 1, 7, none⟩ = some (.slice B2 names'.length bcap2) by rw [hw1]; go_simp)
    have hx : Ext w w1 := by rw [hw1]; exact ((Ext.refl w).alloc _).alloc _
    have HX := q_ hx
    clear hw1
    have HS1 := q_ (show ∀ b, S b → b < w1.heap.size from fun b hb => Nat.lt_of_lt_of_le (HS.out b hb) hx.size)
    have Ha1 := q_ (Ha.out.alike (Alike.of_ext hx HS.out))
    have Hb1 := q_ (Hb.out.alike (Alike.of_ext hx HS.out))
    clear hx
    have q1 : ∀ d os, Calls Tryz.prog 127 #[.slice A2 names.length cap2, .slice B2 names'.length bcap2] (Sort.grow (redrawn w1 d) os) fun e w'' => e = .returned (.int .i64 (lexL cmpS names names')) ∧ ∃ p : Regrown, w'' = Sort.grow (redrawn w1 p.d) p.os := fun d os =>
     (compareStrs_ok S names names' _ _ _ (fun b hb => Nat.lt_of_lt_of_le (HS1.out b hb) (za2 w1 d os).size) (Ha1.out.strs.alike (Alike.of_ext (za2 w1 d os) HS1.out)) (Hb1.out.strs.alike (Alike.of_ext (za2 w1 d os) HS1.out))).mono fun _ _ ⟨he, hw⟩ => ⟨he, ⟨⟨d, os⟩, hw.symm⟩⟩
    have q2 : ∀ d os, Calls Tryz.prog 126 #[.slice A (min items.length names.length) cap, .slice B (min items'.length names'.length) bcap, .func (.func 95) #[] #[]] (Sort.grow (redrawn w1 d) os) fun e w'' => e = .returned (.int .i64 (lexL Val.ord (items.take names.length) (items'.take names'.length))) ∧ ∃ p : Regrown, w'' = Sort.grow (redrawn w1 p.d) p.os := fun d os =>
     Calls.regrown_of (compareFunc_ok S _ _ _ _ _ (fun b hb => Nat.lt_of_lt_of_le (HS1.out b hb) (za2 w1 d os).size) ((Ha1.out.vals.take names.length).alike (Alike.of_ext (za2 w1 d os) HS1.out)) ((Hb1.out.vals.take names'.length).alike (Alike.of_ext (za2 w1 d os) HS1.out)) (fun x hx y _ w1 cx cy hs1 hx1 hy1 => IH.out x y S w1 cx cy (by have := Hn.out; have := List.sizeOf_lt_of_mem (List.mem_of_mem_take hx); simp at *; omega) hs1 hx1 hy1))
    have Q1 := q_ q1
    have Q2 := q_ q2
    clear q1 q2
    refine zcx 10 (by kernel_rfl) (by kernel_rfl) ?_
    simp only [List.take_succ_cons, List.take_zero, List.drop_succ_cons, List.drop_zero]
    repeat (quiet_step (first | (go_at_call 127; exact Q1.out _ _) | (go_at_call 126; exact Q2.out _ _) | (go_at_call 128; exact zan (fun w1 _ => named_ok _ _ _ _ _ _ _ _ _ _ _ _ w1 (by assumption) (by rw [zab]; assumption) (by rw [zab]; omega)) _ _)))
    refine wpQuiet_nil ?_
    intro w2 hw2
    have HX2 := q_ hw2
    clear hw2 c0 c1 c2 c3 c4 c5 c6 c7 d0 d1 d2 d3 d4 d5 d6 d7
    go_wp2_with (go_at_call 81; refine (or_two (lexL cmpS names names') (lexL Val.ord (items.take names.length) (items'.take names'.length)) _ _ (by go_simp) (by go_simp)).mono ?_; rintro e w' ⟨rfl, rfl⟩)
    go_ret
    exact ⟨zag (by rw [Hd.out]; rfl), (HX.out.trans HX2.out).alloc _⟩
   have e1 : (k == 1) = false := by simpa using h1
   have e2 : (k == 2) = false := by simpa using h2
   have e3 : (k == 3) = false := by simpa using h3
   have e4 : (k == 4) = false := by simpa using h4
   have e5 : (k == 5) = false := by simpa using h5
   have e6 : (k == 6) = false := by simpa using h6
   have HK := q_ (And.intro h1 (And.intro h2 (And.intro h3 (And.intro h4 (And.intro h5 h6)))))
   clear h1 h2 h3 h4 h5 h6
   go_enter Tryz.func95, Tryz.ntmps95
   go_wp2_with fail
   go_ret
   obtain ⟨h1, h2, h3, h4, h5, h6⟩ := HK.out
   exact ⟨zag (by rw [Hd.out]; simp [Val.kind, h1, h2, h3, h4, h5, h6]), ((Ext.refl w).alloc _).alloc _⟩
  ·have e0 : (k != k') = true := by simpa using hkk
   have Hk := q_ hkk
   clear hkk
   go_enter Tryz.func95, Tryz.ntmps95
   go_wp2_with (go_at_call 122; refine (compare_int _ _ _).mono ?_; rintro e w' ⟨rfl, rfl⟩)
   go_ret
   exact ⟨zag (by rw [Hd.out]; simp [Val.kind, Hk.out]), ((Ext.refl w).alloc _).alloc _⟩
end Go.Proofs.YtbkaffhbhimglaaGreat
