/-
  Words for memory: which machine cells stand for which plain data, and what keeps them. No program in sight. The conditions: none (definitions and lemmas).
-/
import Derived.Test.YtebfoimbdljbmaaGreatDoorRows
import Derived.WalkKit
import Derived.WalkLawsBesides
import Derived.WalkSpells
import Derived.Lib.Hide
import Derived.Laws.Rows
import Derived.Laws.Cells
import Derived.StillTail
import Derived.Deep.QuietTactic
import Derived.BigQuiet
import Derived.Lib.QuietBelow
namespace Go.Proofs.YtebfoimbdljbmaaGreatDoor
open Go.RowKit
def CellsAt (w : World) (b o : Nat) (cs : List Value) : Prop := ∀ j v, cs[j]? = some v → w.cell? ⟨b, o + j, none⟩ = some v
structure Ext (w w' : World) : Prop extends Below w.heap.size w w' where
 drawn : w.drawn ≤ w'.drawn
theorem Ext.refl (w : World) : Ext w w := ⟨Below.refl _ _, Nat.le_refl _⟩
theorem Ext.trans {a b c : World} (h : Ext a b) (k : Ext b c) : Ext a c := ⟨Below.trans h.toBelow (Below.mono k.toBelow h.size), Nat.le_trans h.drawn k.drawn⟩
theorem Ext.alloc {w w' : World} (h : Ext w w') (o : Obj) : Ext w (w'.alloc o) := ⟨Below.alloc h.toBelow h.size o, h.drawn⟩
theorem Ext.drewN {w w' : World} (h : Ext w w') (n : Nat) : Ext w (w'.drewN n) := ⟨⟨h.os, h.tape, h.output, h.size, h.block⟩, Nat.le_trans h.drawn (Nat.le_add_right _ _)⟩
theorem ask_drawn {α : Type} (k : Ask α) : ∀ w : World, w.drawn ≤ (w.ask k).2.drawn := by
 induction k with
 | done a => intro w; exact Nat.le_refl _
 | ask what range k ih =>
  intro w
  simp only [World.ask]
  split
  ·exact ih _ _
  ·exact Nat.le_trans (Nat.le_succ _) (ih _ { w with drawn := w.drawn + 1 })
theorem sys_drawn (w : World) (c : Sys) : w.drawn ≤ (w.sys c).2.drawn := by
 have h := ask_drawn (Kernel.perform c w.os) w
 unfold World.sys
 split
 ·exact Nat.le_refl _
 ·rename_i r os w1 _ he
  rw [he] at h; exact h
theorem farStore_drawn {P : Program} {w w' : World} {a : Addr} {v : Value} {t : Bool} {l : List Addr} (h : w.farStore P a v t = .ok (w', l)) : w.drawn ≤ w'.drawn := by
 unfold World.farStore at h
 split at h
 ·split at h
  ·rename_i r he
   injection h with h
   subst h
   unfold World.viewStore at he
   simp only [bind, Except.bind, pure, Except.pure] at he
   repeat' (split at he <;> try (cases he; done))
   all_goals (try (injection he with he; rw [Prod.mk.injEq] at he; rw [← he.1]; exact Nat.le_refl _))
  ·cases h
 ·cases h
theorem zb7 {P : Program} {α : Type} (s : Sem α) : ∀ (w : World) (a : α) (w' : World), s.run P w = .ok a w' → w.drawn ≤ w'.drawn := by
 induction s with
 | pure a => intro w a' w' h; simp only [Sem.run] at h; cases h; exact Nat.le_refl _
 | load m a k ih => intro w a' w' h; simp only [Sem.run] at h; (repeat' split at h) <;> first | exact ih _ _ _ _ h | cases h
 | store m a v k ih =>
  intro w a' w' h
  cases v <;> simp only [Sem.run] at h <;> first
   | (cases h; done)
   | ((repeat' split at h) <;> first | (have := ih _ _ _ h; simpa [World.setCell] using this) | (rename_i he; have := ih _ _ _ h; exact Nat.le_trans (farStore_drawn he) this) | cases h)
 | new o k ih => intro w a' w' h; simp only [Sem.run] at h; exact ih w.heap.size { w with heap := w.heap.push o } a' w' h
 | shape r k ih => intro w a' w' h; simp only [Sem.run] at h; exact ih _ _ _ _ h
 | freeze a n k ih => intro w a' w' h; simp only [Sem.run] at h; have := ih _ _ _ h; unfold World.freeze at this; split at this <;> exact this
 | frozen a k ih => intro w a' w' h; simp only [Sem.run] at h; exact ih _ _ _ _ h
 | getObj r k ih => intro w a' w' h; simp only [Sem.run] at h; split at h <;> first | exact ih _ _ _ _ h | cases h
 | setObj r o k ih => intro w a' w' h; simp only [Sem.run] at h; split at h <;> first | exact ih { w with heap := w.heap.setIfInBounds r o } a' w' h | cases h
 | choose q k ih => intro w a' w' h; simp only [Sem.run] at h; split at h <;> first | exact ih _ _ _ _ h | exact Nat.le_trans (Nat.le_succ _) (ih _ { w with drawn := w.drawn + 1 } a' w' h)
 | sys c k ih => intro w a' w' h; simp only [Sem.run] at h; exact Nat.le_trans (sys_drawn w c) (ih _ _ _ _ h)
 | program k ih => intro w a' w' h; simp only [Sem.run] at h; exact ih _ _ _ _ h
 | mark m k ih => intro w a' w' h; simp only [Sem.run] at h; exact ih _ _ _ h
 | halt h => intro w a' w' h; simp only [Sem.run] at h; cases h
def Alike (S : Nat → Prop) (w w' : World) : Prop := ∀ b, S b → w'.heap[b]? = w.heap[b]?
theorem Alike.of_ext {w w' : World} {S : Nat → Prop} (h : Ext w w') (hS : ∀ b, S b → b < w.heap.size) : Alike S w w' := fun b hb => h.block b (hS b hb)
theorem Alike.of_below {B : Nat} {w w' : World} {S : Nat → Prop} (h : Below B w w') (hS : ∀ b, S b → b < B) : Alike S w w' := fun b hb => h.block b (hS b hb)
theorem Alike.trans {S : Nat → Prop} {a b c : World} (h : Alike S a b) (k : Alike S b c) : Alike S a c := fun i hi => (k i hi).trans (h i hi)
theorem Alike.refl (S : Nat → Prop) (w : World) : Alike S w w := fun _ _ => rfl
theorem CellsAt.alike {S : Nat → Prop} {w w' : World} {b o : Nat} {cs : List Value} (h : CellsAt w b o cs) (hs : S b) (k : Alike S w w') : CellsAt w' b o cs :=
 fun j v hj => (World.cell?_of_block (w := w) (a := ⟨b, o + j, none⟩) (k b hs)).trans (h j v hj)
theorem CellsAt.alloc {w : World} {b o : Nat} {cs : List Value} (h : CellsAt w b o cs) (hb : b < w.heap.size) (x : Obj) : CellsAt (w.alloc x) b o cs :=
 fun j v hj => by rw [World.cell?_of_block (w := w) (a := ⟨b, o + j, none⟩) (Below.heap_alloc w x b hb)]; exact h j v hj
theorem CellsAt.drew {w : World} {b o : Nat} {cs : List Value} (h : CellsAt w b o cs) : CellsAt w.drew b o cs := h
theorem CellsAt.below {B : Nat} {w w' : World} {b o : Nat} {cs : List Value} (h : CellsAt w b o cs) (k : Below B w w') (hb : b < B) : CellsAt w' b o cs :=
 h.alike (S := fun x => x < B) hb (Alike.of_below k fun _ h => h)
inductive Val where
 | mk (kind : Int) (bo : Bool) (n : Int) (t ut ui : ByteArray) (items : List Val) (names : List ByteArray)
namespace Val
def kind : Val → Int | mk k _ _ _ _ _ _ _ => k
def bo : Val → Bool | mk _ b _ _ _ _ _ _ => b
def num : Val → Int | mk _ _ n _ _ _ _ _ => n
def text : Val → ByteArray | mk _ _ _ t _ _ _ _ => t
def ut : Val → ByteArray | mk _ _ _ _ t _ _ _ => t
def ui : Val → ByteArray | mk _ _ _ _ _ t _ _ => t
def items : Val → List Val | mk _ _ _ _ _ _ l _ => l
def names : Val → List ByteArray | mk _ _ _ _ _ _ _ l => l
end Val
def I64 (n : Int) : Prop := -9223372036854775808 ≤ n ∧ n ≤ 9223372036854775807
def LIM : Nat := 1073741824
def StrsAt (S : Nat → Prop) (w : World) (l : List ByteArray) (v : Value) : Prop :=
 ∃ A cap, v = .slice A l.length cap ∧ l.length ≤ LIM ∧ l.length ≤ cap ∧ cap ≤ maxLen ∧ (∀ s ∈ l, s.size ≤ maxLen) ∧
  (0 < l.length → ∃ b o, A = some ⟨b, o, none⟩ ∧ S b ∧ CellsAt w b o (l.map Value.string))
mutual
def Val.At (S : Nat → Prop) (w : World) : Val → List Value → Prop
 | .mk k bo n t ut ui items names, cs => ∃ A cap nv, cs = [.int .i64 k, .bool bo, .int .i64 n, .string t, .string ut, .string ui, .slice A items.length cap, nv] ∧
   (I64 k ∧ I64 n ∧ t.size ≤ maxLen ∧ ut.size ≤ maxLen ∧ ui.size ≤ maxLen) ∧ (items.length ≤ LIM ∧ items.length ≤ cap ∧ cap ≤ maxLen) ∧
   (0 < items.length → ∃ b o, A = some ⟨b, o, none⟩ ∧ S b ∧ Val.RowAt S w items b o) ∧ StrsAt S w names nv
def Val.RowAt (S : Nat → Prop) (w : World) : List Val → Nat → Nat → Prop
 | [], _, _ => True
 | v :: r, b, o => (∃ cs, cs.length = 8 ∧ CellsAt w b o cs ∧ Val.At S w v cs) ∧ Val.RowAt S w r b (o + 8)
end
theorem Val.At.length {S : Nat → Prop} {w : World} {v : Val} {cs : List Value} (h : Val.At S w v cs) : cs.length = 8 := by
 cases v; unfold Val.At at h; obtain ⟨A, cap, nv, rfl, _⟩ := h; rfl
theorem StrsAt.alike {S : Nat → Prop} {w w' : World} {l : List ByteArray} {v : Value} (h : StrsAt S w l v) (k : Alike S w w') : StrsAt S w' l v := by
 obtain ⟨A, cap, h1, h0, h2, h3, h4, h5⟩ := h
 exact ⟨A, cap, h1, h0, h2, h3, h4, fun hn => let ⟨b, o, e, hs, hc⟩ := h5 hn; ⟨b, o, e, hs, hc.alike hs k⟩⟩
theorem StrsAt.mono {S S' : Nat → Prop} {w : World} {l : List ByteArray} {v : Value} (h : StrsAt S w l v) (k : ∀ b, S b → S' b) : StrsAt S' w l v := by
 obtain ⟨A, cap, h1, h0, h2, h3, h4, h5⟩ := h
 exact ⟨A, cap, h1, h0, h2, h3, h4, fun hn => let ⟨b, o, e, hs, hc⟩ := h5 hn; ⟨b, o, e, k b hs, hc⟩⟩
mutual
theorem Val.At.alike {S : Nat → Prop} {w w' : World} (k : Alike S w w') : ∀ (v : Val) (cs : List Value), Val.At S w v cs → Val.At S w' v cs
 | .mk _ _ _ _ _ _ items names, cs, h => by
  unfold Val.At at h ⊢
  obtain ⟨A, cap, nv, e, h1, h2, h3, h4⟩ := h
  exact ⟨A, cap, nv, e, h1, h2, fun hn => let ⟨b, o, e, hs, hc⟩ := h3 hn; ⟨b, o, e, hs, Val.RowAt.alike k hs items o hc⟩, h4.alike k⟩
theorem Val.RowAt.alike {S : Nat → Prop} {w w' : World} (k : Alike S w w') {b : Nat} (hs : S b) : ∀ (l : List Val) (o : Nat), Val.RowAt S w l b o → Val.RowAt S w' l b o
 | [], _, _ => by unfold Val.RowAt; trivial
 | v :: r, o, h => by
  unfold Val.RowAt at h ⊢
  obtain ⟨⟨cs, hl, hc, hv⟩, hr⟩ := h
  exact ⟨⟨cs, hl, hc.alike hs k, Val.At.alike k v cs hv⟩, Val.RowAt.alike k hs r (o + 8) hr⟩
end
mutual
theorem Val.At.mono {S S' : Nat → Prop} {w : World} (k : ∀ b, S b → S' b) : ∀ (v : Val) (cs : List Value), Val.At S w v cs → Val.At S' w v cs
 | .mk _ _ _ _ _ _ items names, cs, h => by
  unfold Val.At at h ⊢
  obtain ⟨A, cap, nv, e, h1, h2, h3, h4⟩ := h
  exact ⟨A, cap, nv, e, h1, h2, fun hn => let ⟨b, o, e, hs, hc⟩ := h3 hn; ⟨b, o, e, k b hs, Val.RowAt.mono k items b o hc⟩, h4.mono k⟩
theorem Val.RowAt.mono {S S' : Nat → Prop} {w : World} (k : ∀ b, S b → S' b) : ∀ (l : List Val) (b o : Nat), Val.RowAt S w l b o → Val.RowAt S' w l b o
 | [], _, _, _ => by unfold Val.RowAt; trivial
 | v :: r, b, o, h => by
  unfold Val.RowAt at h ⊢
  obtain ⟨⟨cs, hl, hc, hv⟩, hr⟩ := h
  exact ⟨⟨cs, hl, hc, Val.At.mono k v cs hv⟩, Val.RowAt.mono k r b (o + 8) hr⟩
end
theorem Val.RowAt.get {S : Nat → Prop} {w : World} : ∀ {l : List Val} {b o : Nat}, Val.RowAt S w l b o → ∀ {i : Nat} {x : Val}, l[i]? = some x →
  ∃ cs, cs.length = 8 ∧ CellsAt w b (o + i * 8) cs ∧ Val.At S w x cs
 | [], _, _, _, _, _, h => by simp at h
 | v :: r, b, o, h, 0, x, hx => by
  unfold Val.RowAt at h; simp at hx; subst hx; simpa using h.1
 | v :: r, b, o, h, i + 1, x, hx => by
  unfold Val.RowAt at h
  obtain ⟨cs, h1, h2, h3⟩ := Val.RowAt.get h.2 (i := i) (x := x) (by simpa using hx)
  exact ⟨cs, h1, by rw [show o + (i + 1) * 8 = o + 8 + i * 8 from by omega]; exact h2, h3⟩
theorem Val.RowAt.mk {S : Nat → Prop} {w : World} : ∀ {l : List Val} {b o : Nat}, (∀ i x, l[i]? = some x → ∃ cs, cs.length = 8 ∧ CellsAt w b (o + i * 8) cs ∧ Val.At S w x cs) → Val.RowAt S w l b o
 | [], _, _, _ => by unfold Val.RowAt; trivial
 | v :: r, b, o, h => by
  unfold Val.RowAt
  refine ⟨by simpa using h 0 v rfl, Val.RowAt.mk fun i x hx => ?_⟩
  obtain ⟨cs, h1, h2, h3⟩ := h (i + 1) x (by simpa using hx)
  exact ⟨cs, h1, by rw [show o + 8 + i * 8 = o + (i + 1) * 8 from by omega]; exact h2, h3⟩
theorem zb2 {P : Program} {w : World} {t : TypeId} {b o : Nat} {cs : List Value} {n : Nat} (hA : ∀ w, (isAgg t).run P w = .ok true w) (hz : ∀ w, (Go.sizeOf t).run P w = .ok n w)
  (hn : cs.length = n) (h : CellsAt w b o cs) : (loadVar t ⟨b, o, none⟩).run P w = .ok (.agg cs.toArray) w := by
 have := run_loadCells_list (P := P) (w := w) ⟨b, o, none⟩ cs (fun j v hj => by
  have := h j v hj
  unfold Addr.add
  by_cases h0 : j = 0
  ·subst h0; simpa using this
  ·simpa [h0] using this)
 simp [loadVar, hA, hz, hn ▸ this]
theorem zaa {P : Program} {ops : Array Oper} {rest : List Oper} {o : Oper} {a : Act} {w : World} {Q : Exit → Act → World → Prop} (hgd : o.guard = none) (ty : TypeId) (x : Operand) (ho : o.op = .load ty x)
  (b off : Nat) (hx : a.eval x = .pointer (some ⟨b, off, none⟩)) {cs : List Value} {n : Nat} (hA : ∀ w, (isAgg ty).run P w = .ok true w) (hz : ∀ w, (Go.sizeOf ty).run P w = .ok n w) (hn : cs.length = n)
  (h : CellsAt w b off cs) (hk : wpList P ops Q rest (a.put o.dst (.agg cs.toArray)) w) : wpList P ops Q (o :: rest) a w :=
 wpList_plain hgd fun K hK => by
  unfold Oper.wp execOp
  simp only [ho, hx, Instr.loadAt, Instr.sureAddr, Sem.run_bind, Sem.run_pure, Result.andThen_ok, zb2 hA hz hn h]
  exact hK _ _ hk
end Go.Proofs.YtebfoimbdljbmaaGreatDoor

/-
  The order of values, as plain mathematics: turning round, going over three. No program in sight. The conditions: none (definitions and lemmas).
-/
namespace Go.Proofs.YtebfoimbdljbmaaGreatDoor
open Go.RowKit
def cmpI (a b : Int) : Int := if a < b then -1 else if b < a then 1 else 0
def cmpL : List UInt8 → List UInt8 → Int
 | [], [] => 0
 | [], _ :: _ => -1
 | _ :: _, [] => 1
 | x :: r, y :: s => if x < y then -1 else if y < x then 1 else cmpL r s
def cmpS (a b : ByteArray) : Int := cmpL a.toList b.toList
def lex2 (a b : Int) : Int := if a = 0 then b else a
def lexL {α : Type} (c : α → α → Int) : List α → List α → Int
 | [], [] => 0
 | [], _ :: _ => -1
 | _ :: _, [] => 1
 | x :: r, y :: s => lex2 (c x y) (lexL c r s)
def bit (b : Bool) : Int := if b then 1 else 0
structure GoodAt {α : Type} (c : α → α → Int) (a : α) : Prop where
 refl : c a a = 0
 turn : ∀ b, c b a = -(c a b)
 range : ∀ b, c a b = -1 ∨ c a b = 0 ∨ c a b = 1
 cong : ∀ b d, c a b = 0 → c b d = c a d
 less : ∀ b d, c a b = -1 → c b d ≤ 0 → c a d = -1
theorem GoodAt.cmpI (a : Int) : GoodAt cmpI a where
 refl := by simp [Go.Proofs.YtebfoimbdljbmaaGreatDoor.cmpI]
 turn b := by unfold Go.Proofs.YtebfoimbdljbmaaGreatDoor.cmpI; repeat' split <;> omega
 range b := by unfold Go.Proofs.YtebfoimbdljbmaaGreatDoor.cmpI; repeat' split <;> omega
 cong b d h := by
  unfold Go.Proofs.YtebfoimbdljbmaaGreatDoor.cmpI at h
  have : a = b := by repeat' split at h <;> omega
  rw [this]
 less b d h k := by
  unfold Go.Proofs.YtebfoimbdljbmaaGreatDoor.cmpI at *
  repeat' split at h <;> try omega
  repeat' split at k <;> try omega
  all_goals rw [if_pos (by omega)]
theorem cmpL_refl : ∀ a : List UInt8, cmpL a a = 0
 | [] => rfl
 | x :: r => by simp [cmpL, cmpL_refl r]
theorem cmpL_turn : ∀ a b : List UInt8, cmpL b a = -(cmpL a b)
 | [], [] => rfl
 | [], _ :: _ => rfl
 | _ :: _, [] => rfl
 | x :: r, y :: s => by
  simp only [cmpL, cmpL_turn r s, UInt8.lt_iff_toNat_lt]
  repeat' split <;> first | rfl | omega
theorem cmpL_range : ∀ a b : List UInt8, cmpL a b = -1 ∨ cmpL a b = 0 ∨ cmpL a b = 1
 | [], [] => by simp [cmpL]
 | [], _ :: _ => by simp [cmpL]
 | _ :: _, [] => by simp [cmpL]
 | x :: r, y :: s => by
  simp only [cmpL]
  split
  ·simp
  ·split
   ·simp
   ·exact cmpL_range r s
theorem cmpL_eq : ∀ a b : List UInt8, cmpL a b = 0 → a = b
 | [], [] => by simp
 | [], _ :: _ => by simp [cmpL]
 | _ :: _, [] => by simp [cmpL]
 | x :: r, y :: s => by
  simp only [cmpL, UInt8.lt_iff_toNat_lt]
  split
  ·simp
  ·split
   ·simp
   ·intro h
    have := cmpL_eq r s h
    have hx : x = y := UInt8.toNat_inj.1 (by omega)
    rw [this, hx]
theorem cmpL_less : ∀ a b d : List UInt8, cmpL a b = -1 → cmpL b d ≤ 0 → cmpL a d = -1
 | [], [], _ => by simp [cmpL]
 | [], _ :: _, [] => by simp [cmpL]
 | [], _ :: _, _ :: _ => by simp [cmpL]
 | _ :: _, [], _ => by simp [cmpL]
 | _ :: _, _ :: _, [] => by simp [cmpL]
 | x :: r, y :: s, z :: t => by
  simp only [cmpL, UInt8.lt_iff_toNat_lt]
  intro h k
  by_cases h1 : x.toNat < y.toNat
  ·by_cases h2 : y.toNat < z.toNat
   ·rw [if_pos (by omega)]
   ·rw [if_neg h2] at k
    by_cases h3 : z.toNat < y.toNat
    ·rw [if_pos h3] at k; omega
    ·rw [if_pos (by omega)]
  ·rw [if_neg h1] at h
   by_cases h2 : y.toNat < x.toNat
   ·rw [if_pos h2] at h; omega
   ·rw [if_neg h2] at h
    by_cases h3 : y.toNat < z.toNat
    ·rw [if_pos (by omega)]
    ·rw [if_neg h3] at k
     by_cases h4 : z.toNat < y.toNat
     ·rw [if_pos h4] at k; omega
     ·rw [if_neg h4] at k
      rw [if_neg (by omega), if_neg (by omega)]
      exact cmpL_less r s t h k
theorem toList_inj {a b : ByteArray} (h : a.toList = b.toList) : a = b := by
 rw [ByteArray.toList_eq, ByteArray.toList_eq] at h
 exact WideShapes.bytes_inj h
theorem cmpS_eq {a b : ByteArray} (h : cmpS a b = 0) : a = b := toList_inj (cmpL_eq _ _ h)
theorem GoodAt.cmpS (a : ByteArray) : GoodAt cmpS a where
 refl := cmpL_refl _
 turn b := cmpL_turn _ _
 range b := cmpL_range _ _
 cong b d h := by rw [cmpS_eq h]
 less b d h k := cmpL_less _ _ _ h k
theorem GoodAt.lexL {α : Type} {c : α → α → Int} : ∀ {l : List α}, (∀ x ∈ l, GoodAt c x) → GoodAt (lexL c) l
 | [], _ => by
  constructor
  ·rfl
  ·intro b; cases b <;> simp [Go.Proofs.YtebfoimbdljbmaaGreatDoor.lexL]
  ·intro b; cases b <;> simp [Go.Proofs.YtebfoimbdljbmaaGreatDoor.lexL]
  ·intro b d; cases b <;> simp [Go.Proofs.YtebfoimbdljbmaaGreatDoor.lexL]
  ·intro b d; cases b <;> cases d <;> simp [Go.Proofs.YtebfoimbdljbmaaGreatDoor.lexL]
 | x :: r, h => by
  have hx := h x (by simp)
  have ih := GoodAt.lexL (l := r) fun y hy => h y (by simp [hy])
  constructor
  ·simp [Go.Proofs.YtebfoimbdljbmaaGreatDoor.lexL, lex2, hx.refl, ih.refl]
  ·intro b
   cases b with
   | nil => simp [Go.Proofs.YtebfoimbdljbmaaGreatDoor.lexL]
   | cons y s =>
    have h1 := hx.turn y
    have h2 := ih.turn s
    simp only [Go.Proofs.YtebfoimbdljbmaaGreatDoor.lexL, lex2]
    repeat' split <;> omega
  ·intro b
   cases b with
   | nil => simp [Go.Proofs.YtebfoimbdljbmaaGreatDoor.lexL]
   | cons y s =>
    have h1 := hx.range y
    have h2 := ih.range s
    simp only [Go.Proofs.YtebfoimbdljbmaaGreatDoor.lexL, lex2]
    repeat' split <;> omega
  ·intro b d hb
   cases b with
   | nil => simp [Go.Proofs.YtebfoimbdljbmaaGreatDoor.lexL] at hb
   | cons y s =>
    simp only [Go.Proofs.YtebfoimbdljbmaaGreatDoor.lexL, lex2] at hb
    have h0 : c x y = 0 := by
     split at hb
     ·assumption
     ·exact hb
    rw [if_pos h0] at hb
    cases d with
    | nil => simp [Go.Proofs.YtebfoimbdljbmaaGreatDoor.lexL]
    | cons z t => simp only [Go.Proofs.YtebfoimbdljbmaaGreatDoor.lexL, hx.cong y z h0, ih.cong s t hb]
  ·intro b d hb hd
   cases b with
   | nil => simp [Go.Proofs.YtebfoimbdljbmaaGreatDoor.lexL] at hb
   | cons y s =>
    cases d with
    | nil => simp [Go.Proofs.YtebfoimbdljbmaaGreatDoor.lexL] at hd
    | cons z t =>
     simp only [Go.Proofs.YtebfoimbdljbmaaGreatDoor.lexL, lex2] at hb hd ⊢
     by_cases h0 : c x y = 0
     ·rw [if_pos h0] at hb
      rw [hx.cong y z h0] at hd
      by_cases h1 : c x z = 0
      ·rw [if_pos h1] at hd ⊢
       exact ih.less s t hb hd
      ·rw [if_neg h1] at hd ⊢
       have := hx.range z; omega
     ·rw [if_neg h0] at hb
      have h3 : c y z ≤ 0 := by
       by_cases h1 : c y z = 0
       ·omega
       ·rw [if_neg h1] at hd; exact hd
      have := hx.less y z hb h3
      rw [if_neg (by omega)]
      exact this
mutual
def Val.ord : Val → Val → Int
 | .mk k bo n t ut ui items names, .mk k' bo' n' t' ut' ui' items' names' =>
  if k ≠ k' then cmpI k k' else
  if k = 1 then cmpI (bit bo) (bit bo') else
  if k = 2 then cmpI n n' else
  if k = 3 then cmpS t t' else
  if k = 4 then lex2 (cmpS ut ut') (cmpS ui ui') else
  if k = 5 then Val.ords items items.length items' items'.length else
  if k = 6 then lex2 (lexL cmpS names names') (Val.ords items names.length items' names'.length) else 0
def Val.ords : List Val → Nat → List Val → Nat → Int
 | [], _, l, m => if l = [] ∨ m = 0 then 0 else -1
 | _ :: _, 0, l, m => if l = [] ∨ m = 0 then 0 else -1
 | _ :: _, _ + 1, [], _ => 1
 | _ :: _, _ + 1, _ :: _, 0 => 1
 | x :: r, n + 1, y :: s, m + 1 => lex2 (Val.ord x y) (Val.ords r n s m)
end
theorem Val.ords_eq : ∀ (l : List Val) (n : Nat) (l' : List Val) (m : Nat), Val.ords l n l' m = lexL Val.ord (l.take n) (l'.take m)
 | [], n, [], m => by simp [Val.ords, lexL]
 | [], n, y :: s, 0 => by simp [Val.ords, lexL]
 | [], n, y :: s, m + 1 => by simp [Val.ords, lexL]
 | x :: r, 0, [], m => by simp [Val.ords, lexL]
 | x :: r, 0, y :: s, 0 => by simp [Val.ords, lexL]
 | x :: r, 0, y :: s, m + 1 => by simp [Val.ords, lexL]
 | x :: r, n + 1, [], m => by simp [Val.ords, lexL]
 | x :: r, n + 1, y :: s, 0 => by simp [Val.ords, lexL]
 | x :: r, n + 1, y :: s, m + 1 => by simp [Val.ords, lexL, Val.ords_eq r n s m]
theorem Val.ord_def (a b : Val) : a.ord b = if a.kind ≠ b.kind then cmpI a.kind b.kind else
  if a.kind = 1 then cmpI (bit a.bo) (bit b.bo) else
  if a.kind = 2 then cmpI a.num b.num else
  if a.kind = 3 then cmpS a.text b.text else
  if a.kind = 4 then lex2 (cmpS a.ut b.ut) (cmpS a.ui b.ui) else
  if a.kind = 5 then lexL Val.ord a.items b.items else
  if a.kind = 6 then lex2 (lexL cmpS a.names b.names) (lexL Val.ord (a.items.take a.names.length) (b.items.take b.names.length)) else 0 := by
 cases a; cases b
 simp only [Val.ord, Val.ords_eq, Val.kind, Val.bo, Val.num, Val.text, Val.ut, Val.ui, Val.items, Val.names, List.take_length]
 rfl
theorem GoodAt.both {α β : Type} {c : α → α → Int} {d : β → β → Int} {a : α} {x : β} (h : GoodAt c a) (k : GoodAt d x) : GoodAt (fun p q : α × β => lex2 (c p.1 q.1) (d p.2 q.2)) (a, x) where
 refl := by simp [lex2, h.refl, k.refl]
 turn b := by
  have h1 := h.turn b.1
  have h2 := k.turn b.2
  simp only [lex2]
  repeat' split <;> omega
 range b := by
  have h1 := h.range b.1
  have h2 := k.range b.2
  simp only [lex2]
  repeat' split <;> omega
 cong b e hb := by
  simp only [lex2] at hb
  have h0 : c a b.1 = 0 := by
   split at hb
   ·assumption
   ·exact hb
  rw [if_pos h0] at hb
  simp only [h.cong b.1 e.1 h0, k.cong b.2 e.2 hb]
 less b e hb he := by
  simp only [lex2] at hb he ⊢
  by_cases h0 : c a b.1 = 0
  ·rw [if_pos h0] at hb
   rw [h.cong b.1 e.1 h0] at he
   by_cases h1 : c a e.1 = 0
   ·rw [if_pos h1] at he ⊢
    exact k.less b.2 e.2 hb he
   ·rw [if_neg h1] at he ⊢
    have := h.range e.1; omega
  ·rw [if_neg h0] at hb
   have h3 : c b.1 e.1 ≤ 0 := by
    by_cases h1 : c b.1 e.1 = 0
    ·omega
    ·rw [if_neg h1] at he; exact he
   have := h.less b.1 e.1 hb h3
   rw [if_neg (by omega)]
   exact this
theorem GoodAt.part {α β : Type} {c : β → β → Int} (f : α → β) {a : α} (h : GoodAt c (f a)) : GoodAt (fun p q => c (f p) (f q)) a :=
 ⟨h.refl, fun _ => h.turn _, fun _ => h.range _, fun _ _ => h.cong _ _, fun _ _ => h.less _ _⟩
theorem Val.mem_size {v x : Val} (h : x ∈ v.items) : SizeOf.sizeOf x < SizeOf.sizeOf v := by
 cases v
 have := List.sizeOf_lt_of_mem h
 simp only [Val.items] at this
 simp; omega
theorem Val.good : ∀ (n : Nat) (a : Val), SizeOf.sizeOf a ≤ n → GoodAt Val.ord a
 | 0, a, h => by cases a; simp at h
 | n + 1, a, h => by
  have ih : ∀ x ∈ a.items, GoodAt Val.ord x := fun x hx => Val.good n x (by have := Val.mem_size hx; omega)
  have i5 : GoodAt (fun p q : Val => Go.Proofs.YtebfoimbdljbmaaGreatDoor.lexL Val.ord p.items q.items) a := GoodAt.part (c := Go.Proofs.YtebfoimbdljbmaaGreatDoor.lexL Val.ord) Val.items (GoodAt.lexL ih)
  have i6 : GoodAt (fun p q : Val => lex2 (Go.Proofs.YtebfoimbdljbmaaGreatDoor.lexL Go.Proofs.YtebfoimbdljbmaaGreatDoor.cmpS p.names q.names) (Go.Proofs.YtebfoimbdljbmaaGreatDoor.lexL Val.ord (p.items.take p.names.length) (q.items.take q.names.length))) a :=
   GoodAt.part (fun p : Val => (p.names, p.items.take p.names.length)) (GoodAt.both (c := Go.Proofs.YtebfoimbdljbmaaGreatDoor.lexL Go.Proofs.YtebfoimbdljbmaaGreatDoor.cmpS) (d := Go.Proofs.YtebfoimbdljbmaaGreatDoor.lexL Val.ord) (GoodAt.lexL fun x _ => GoodAt.cmpS x) (GoodAt.lexL fun x hx => ih x (List.mem_of_mem_take hx)))
  have i1 : GoodAt (fun p q : Val => Go.Proofs.YtebfoimbdljbmaaGreatDoor.cmpI (bit p.bo) (bit q.bo)) a := GoodAt.part (fun p : Val => bit p.bo) (GoodAt.cmpI _)
  have i2 : GoodAt (fun p q : Val => Go.Proofs.YtebfoimbdljbmaaGreatDoor.cmpI p.num q.num) a := GoodAt.part Val.num (GoodAt.cmpI _)
  have i3 : GoodAt (fun p q : Val => Go.Proofs.YtebfoimbdljbmaaGreatDoor.cmpS p.text q.text) a := GoodAt.part Val.text (GoodAt.cmpS _)
  have i4 : GoodAt (fun p q : Val => lex2 (Go.Proofs.YtebfoimbdljbmaaGreatDoor.cmpS p.ut q.ut) (Go.Proofs.YtebfoimbdljbmaaGreatDoor.cmpS p.ui q.ui)) a := GoodAt.part (fun p : Val => (p.ut, p.ui)) (GoodAt.both (GoodAt.cmpS _) (GoodAt.cmpS _))
  have ik : GoodAt (fun p q : Val => Go.Proofs.YtebfoimbdljbmaaGreatDoor.cmpI p.kind q.kind) a := GoodAt.part Val.kind (GoodAt.cmpI _)
  -- behind the kind each has its own
  have hk : ∃ f : Val → Val → Int, GoodAt f a ∧ ∀ p q : Val, p.kind = a.kind → q.kind = a.kind → p.ord q = f p q := by
   by_cases h1 : a.kind = 1
   ·exact ⟨_, i1, fun p q hp hq => by rw [Val.ord_def, if_neg (by simp [hp, hq]), if_pos (by omega)]⟩
   by_cases h2 : a.kind = 2
   ·exact ⟨_, i2, fun p q hp hq => by rw [Val.ord_def, if_neg (by simp [hp, hq]), if_neg (by omega), if_pos (by omega)]⟩
   by_cases h3 : a.kind = 3
   ·exact ⟨_, i3, fun p q hp hq => by rw [Val.ord_def, if_neg (by simp [hp, hq]), if_neg (by omega), if_neg (by omega), if_pos (by omega)]⟩
   by_cases h4 : a.kind = 4
   ·exact ⟨_, i4, fun p q hp hq => by rw [Val.ord_def, if_neg (by simp [hp, hq]), if_neg (by omega), if_neg (by omega), if_neg (by omega), if_pos (by omega)]⟩
   by_cases h5 : a.kind = 5
   ·exact ⟨_, i5, fun p q hp hq => by rw [Val.ord_def, if_neg (by simp [hp, hq]), if_neg (by omega), if_neg (by omega), if_neg (by omega), if_neg (by omega), if_pos (by omega)]⟩
   by_cases h6 : a.kind = 6
   ·exact ⟨_, i6, fun p q hp hq => by rw [Val.ord_def, if_neg (by simp [hp, hq]), if_neg (by omega), if_neg (by omega), if_neg (by omega), if_neg (by omega), if_neg (by omega), if_pos (by omega)]⟩
   ·exact ⟨fun _ _ => 0, ⟨rfl, by simp, by simp, by simp, by simp⟩, fun p q hp hq => by rw [Val.ord_def, if_neg (by simp [hp, hq]), if_neg (by omega), if_neg (by omega), if_neg (by omega), if_neg (by omega), if_neg (by omega), if_neg (by omega)]⟩
  obtain ⟨f, hf, he⟩ := hk
  have hne : ∀ p q : Val, p.kind ≠ q.kind → p.ord q = Go.Proofs.YtebfoimbdljbmaaGreatDoor.cmpI p.kind q.kind := fun p q hpq => by rw [Val.ord_def, if_pos hpq]
  have hz : ∀ p q : Val, p.kind ≠ q.kind → p.ord q ≠ 0 := fun p q hpq => by
   rw [hne p q hpq]; unfold Go.Proofs.YtebfoimbdljbmaaGreatDoor.cmpI; repeat' split <;> omega
  constructor
  ·rw [he a a rfl rfl]; exact hf.refl
  ·intro b
   by_cases hb : b.kind = a.kind
   ·rw [he a b rfl hb, he b a hb rfl]; exact hf.turn b
   ·rw [hne b a hb, hne a b (Ne.symm hb)]; exact ik.turn b
  ·intro b
   by_cases hb : b.kind = a.kind
   ·rw [he a b rfl hb]; exact hf.range b
   ·rw [hne a b (Ne.symm hb)]; exact ik.range b
  ·intro b d h0
   by_cases hb : b.kind = a.kind
   ·by_cases hd : d.kind = a.kind
    ·rw [he a b rfl hb] at h0
     rw [he b d hb hd, he a d rfl hd]; exact hf.cong b d h0
    ·rw [hne b d (by omega), hne a d (by omega), hb]
   ·exact absurd h0 (hz a b (Ne.symm hb))
  ·intro b d h0 h1
   by_cases hb : b.kind = a.kind
   ·by_cases hd : d.kind = a.kind
    ·rw [he a b rfl hb] at h0
     rw [he b d hb hd] at h1
     rw [he a d rfl hd]; exact hf.less b d h0 h1
    ·rw [hne b d (by omega)] at h1
     rw [hne a d (by omega), ← hb]
     have := (GoodAt.cmpI b.kind).range d.kind
     have h2 := hz b d (by omega)
     rw [hne b d (by omega)] at h2
     omega
   ·rw [hne a b (Ne.symm hb)] at h0
    by_cases hd : d.kind = b.kind
    ·rw [hne a d (by omega), hd]; exact h0
    ·rw [hne b d (by omega)] at h1
     by_cases had : a.kind = d.kind
     ·exfalso
      rw [← had] at h1
      have h3 := (GoodAt.cmpI a.kind).turn b.kind
      omega
     ·rw [hne a d had]
      exact ik.less b d h0 h1
end Go.Proofs.YtebfoimbdljbmaaGreatDoor

/-
  A statement whose order Go leaves open: operations that come to one value in every later world, in whatever order, and behind them a tail in a forced order. The conditions: none (lemmas on the model).
-/
namespace Go.Proofs.YtebfoimbdljbmaaGreatDoor
open Go.RowKit
section
variable {P : Program} {ops : Array Oper} {md : Region.Mode} {C : World → Prop}
theorem wpQuiet_mono {Q Q' : Act → Prop} (h : ∀ a, Q a → Q' a) : ∀ (l : List Oper) (a : Act), wpQuiet P ops C Q l a → wpQuiet P ops C Q' l a
 | [], _, hq => h _ hq
 | o :: l, a, hq => by
  unfold wpQuiet at hq ⊢
  split
  ·rename_i hw; rw [if_pos hw] at hq; exact Oper.quiet_mono (wpQuiet_mono h l) hq
  ·rename_i hw; rw [if_neg hw] at hq; exact wpQuiet_mono h l _ hq
end
def zcb (w : World) (d : Nat) : World := w.drewN d
theorem zb9 (w : World) (d : Nat) (os : Array Obj) : Ext w (Sort.grow (zcb w d) os) :=
 ⟨⟨rfl, rfl, rfl, by simp [Sort.grow, zcb, World.drewN], fun k hk => by simp [Sort.grow, zcb, World.drewN, Array.getElem?_append, hk]⟩, by simp [Sort.grow, zcb, World.drewN]⟩
theorem zav {w : World} {a : Addr} {v : Value} (h : w.cell? a = some v) (d : Nat) (os : Array Obj) : (Sort.grow (zcb w d) os).cell? a = some v := by
 rw [(zb9 w d os).toBelow.cell (block_lt_of_cell h)]; exact h
abbrev Later (w : World) : World → Prop := fun w' => ∃ p : Regrown, w' = Sort.grow (zcb w p.d) p.os
theorem Later.start (w : World) : Later w { w with drawn := w.drawn + 1 } := ⟨⟨1, #[]⟩, by rw [Sort.grow_empty]; rfl⟩
theorem Later.ext {w w' : World} (h : Later w w') : Ext w w' := by obtain ⟨p, rfl⟩ := h; exact zb9 w p.d p.os
theorem zbt {P : Program} {id : Nat} {Q : Exit → Act → World → Prop} {a : Act} {w : World} {l : List Oper} (hm : P.follows .mixedOrders = true) (hB : Region.lexB .any l.toArray = true)
  (h : wpQuiet P l.toArray (fun w' => ∃ p : Regrown, w' = Sort.grow (zcb w p.d) p.os) (fun a' => ∀ w', Ext w w' → Q .normal a' w') l a) : (Code.region id l.toArray true).wp P Q a w :=
 wp_region_quiet (C := Later w) hm hB (Later.start w) (by simpa using wpQuiet_mono (fun _ h w' hw => h w' (Later.ext hw)) _ _ h)
end Go.Proofs.YtebfoimbdljbmaaGreatDoor

/-
  What the library's comparisons, and the small functions on values, come to. The conditions: none beyond each contract's own.
-/
namespace Go.Proofs.YtebfoimbdljbmaaGreatDoor
open Go.RowKit
theorem ret_int {k : IntKind} {a b : Int} (h : a = b) : Ending.returned (.int k a) = .returned (.int k b) := by rw [h]
theorem ret_bool {a b : Bool} (h : a = b) : Ending.returned (.bool a) = .returned (.bool b) := by rw [h]
theorem zaf {w : World} {g : Nat} {o : Obj} (h : w.heap[g]? = some o) : g < w.heap.size := by
 rcases Nat.lt_or_ge g w.heap.size with hlt | hge
 ·exact hlt
 ·rw [Array.getElem?_eq_none hge] at h; cases h
end Go.Proofs.YtebfoimbdljbmaaGreatDoor

/-
  What the program's order of values comes to. The conditions: none beyond each contract's own (the values lie in memory as they should).
-/
namespace Go.Proofs.YtebfoimbdljbmaaGreatDoor
open Go.RowKit
def ValsAt (S : Nat → Prop) (w : World) (l : List Val) (v : Value) : Prop :=
 ∃ A cap, v = .slice A l.length cap ∧ (l.length ≤ LIM ∧ l.length ≤ cap ∧ cap ≤ maxLen) ∧ (0 < l.length → ∃ b o, A = some ⟨b, o, none⟩ ∧ S b ∧ Val.RowAt S w l b o)
theorem ValsAt.alike {S : Nat → Prop} {w w' : World} {l : List Val} {v : Value} (h : ValsAt S w l v) (k : Alike S w w') : ValsAt S w' l v := by
 obtain ⟨A, cap, h1, h2, h5⟩ := h
 exact ⟨A, cap, h1, h2, fun hn => let ⟨b, o, e, hs, hc⟩ := h5 hn; ⟨b, o, e, hs, hc.alike k hs⟩⟩
theorem Val.At.shape {S : Nat → Prop} {w : World} {v : Val} {cs : List Value} (h : Val.At S w v cs) :
  ∃ k b n t ut ui A l c A2 l2 c2, cs = [.int .i64 k, .bool b, .int .i64 n, .string t, .string ut, .string ui, .slice A l c, .slice A2 l2 c2] := by
 cases v; unfold Val.At at h
 obtain ⟨A, cap, nv, rfl, _, _, _, A2, c2, rfl, _⟩ := h
 exact ⟨_, _, _, _, _, _, _, _, _, _, _, _, rfl⟩
theorem LIM_eq : LIM = 1073741824 := rfl
theorem zat : maxLen = 9223372036854775807 := by unfold maxLen; rfl
theorem zb4 : ∀ w, (isAgg 27).run Tryz.prog w = .ok true w := fun _ => by kernel_rfl
theorem zbp : ∀ w, (Go.sizeOf 27).run Tryz.prog w = .ok 8 w := fun _ => by kernel_rfl
end Go.Proofs.YtebfoimbdljbmaaGreatDoor

/-
  What value.Order, value.Same and value.Depth come to. The conditions: none beyond each contract's own (the values lie in memory as they should).
-/
namespace Go.Proofs.YtebfoimbdljbmaaGreatDoor
open Go.RowKit
theorem row_take {S : Nat → Prop} {w : World} {l : List Val} {b o : Nat} (h : Val.RowAt S w l b o) (n : Nat) : Val.RowAt S w (l.take n) b o :=
 Val.RowAt.mk fun i x hx => by
  rw [List.getElem?_take] at hx
  split at hx
  ·exact h.get hx
  ·cases hx
theorem ValsAt.take {S : Nat → Prop} {w : World} {l : List Val} {A : Option Addr} {cap : Nat} (h : ValsAt S w l (.slice A l.length cap)) (n : Nat) : ValsAt S w (l.take n) (.slice A (min l.length n) cap) := by
 obtain ⟨A', cap', he, ⟨h1, h2, h3⟩, hr⟩ := h
 injection he with hA _ hc
 subst hA hc
 refine ⟨A, cap, by rw [List.length_take, Nat.min_comm], ⟨by rw [List.length_take]; omega, by rw [List.length_take]; omega, h3⟩, fun hn => ?_⟩
 rw [List.length_take] at hn
 obtain ⟨b, o, e, hs, hrow⟩ := hr (by omega)
 exact ⟨b, o, e, hs, row_take hrow n⟩
end Go.Proofs.YtebfoimbdljbmaaGreatDoor
