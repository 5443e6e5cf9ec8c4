/-
  A row of a call's own, put together anew with one value more at a place; an append whose source may be empty. The conditions: none (definitions and lemmas).
-/
import Derived.Test.YtebfoimbdljbmaaGreatDoorGc
import Derived.Test.YtebfoimbdljbmaaGreatDoorGb
import Derived.Laws.StructEq
namespace Go.Proofs.YtebfoimbdljbmaaGreatDoor
open Go.RowKit
/-! ### the place from behind -/
section
variable {α : Type} {c : α → α → Int}
def Behind (c : α → α → Int) (x : α) (L : List α) (p : Nat) (tb : Bool) : Prop := (∀ j y, p ≤ j → L[j]? = some y → ¬ c y x = -1) ∧ (tb = true ↔ ∃ j y, p ≤ j ∧ L[j]? = some y ∧ c y x = 0)
theorem Behind.step {x y : α} {L : List α} {p : Nat} {tb : Bool} (h : Behind c x L (p + 1) tb) (hy : L[p]? = some y) (h1 : ¬ c y x = -1) : Behind c x L p (tb || decide (c y x = 0)) := by
 refine ⟨fun j z hj hz => ?_, ?_⟩
 ·rcases Nat.lt_or_ge p j with hp | hp
  ·exact h.1 j z hp hz
  ·have : j = p := by omega
   subst this; rw [hy] at hz; cases hz; exact h1
 ·rw [Bool.or_eq_true, h.2, decide_eq_true_eq]
  constructor
  ·rintro (⟨j, z, hj, hz, h0⟩ | h0)
   ·exact ⟨j, z, by omega, hz, h0⟩
   ·exact ⟨p, y, Nat.le_refl _, hy, h0⟩
  ·rintro ⟨j, z, hj, hz, h0⟩
   rcases Nat.lt_or_ge p j with hp | hp
   ·exact .inl ⟨j, z, hp, hz, h0⟩
   ·have : j = p := by omega
    subst this; rw [hy] at hz; cases hz; exact .inr h0
theorem Behind.back {x z : α} {L : List α} {p : Nat} {tb : Bool} {ov : Int} (h : Behind c x L p tb) (hp : p ≠ 0) (hz : L[p - 1]? = some z) (hov : ov = c z x) (h1 : ov ≠ -1) : Behind c x L (p - 1) (tb || decide (ov = 0)) := by
 rw [hov]
 exact Behind.step (by rwa [show p - 1 + 1 = p by omega]) hz (by rwa [← hov])
end
def SrcAt (w : World) (A : Option Addr) (m : Nat) (news : List Value) : Prop := 0 < m → ∃ b of, A = some ⟨b, of, none⟩ ∧ CellsAt w b of news
theorem Flat.insert {S : Nat → Prop} {w : World} {x : Val} {cs : List Value} (hx : Val.At S w x cs) : ∀ {p : Nat} {L : List Val} {xs : List Value}, Flat S w L xs → p ≤ L.length → Flat S w (L.take p ++ x :: L.drop p) (xs.take (p * 8) ++ cs ++ xs.drop (p * 8))
 | 0, L, xs, h, _ => by simpa using ⟨cs, xs, rfl, hx, h⟩
 | p + 1, [], xs, h, hp => by simp at hp
 | p + 1, v :: r, xs, ⟨c, ys, e, hv, hr⟩, hp => by
  subst e
  have hc := hv.length
  have := Flat.insert hx hr (p := p) (by simpa using hp)
  refine ⟨c, ys.take (p * 8) ++ cs ++ ys.drop (p * 8), ?_, hv, this⟩
  rw [List.take_append, List.drop_append, List.take_of_length_le (by omega), List.drop_eq_nil_of_le (by omega), show (p + 1) * 8 - c.length = p * 8 by omega]
  simp
theorem ownsRow_base {w : World} {base base' : Nat} {e : TypeId} {size : Nat} {v : Value} {n : Nat} {xs : List Value} (h : w.ownsRow base e size v n xs) (hb : base' ≤ base) : w.ownsRow base' e size v n xs := by
 obtain ⟨h1, h2⟩ := h
 refine ⟨h1, ?_⟩
 rcases h2 with h2 | ⟨g, cap, cur, hv, hg, r⟩
 ·exact .inl h2
 ·exact .inr ⟨g, cap, cur, hv, Nat.le_trans hb hg, r⟩
theorem Flat.one {S : Nat → Prop} {w : World} : ∀ {l : List Val} {xs : List Value}, Flat S w l xs → ∀ u ∈ xs, u.oneCell' = true
 | [], xs, h, u, hu => by simp only [Flat] at h; subst h; cases hu
 | v :: r, xs, ⟨c, ys, e, hv, hr⟩, u, hu => by
  subst e
  rcases List.mem_append.1 hu with h | h
  ·exact hv.one u h
  ·exact Flat.one hr u h
structure Ins (S : Nat → Prop) (w1 : World) (O : Nat) (kd : Int) (L : List Val) (M : List ByteArray) (wr : World) : Prop where
 grown : GrownBy w1 wr (some O)
 rows : ∃ (I N : Value) (xs : List Value), wr.heap[O]? = some (.cells #[.int .i64 kd, .bool false, .int .i64 0, .string ByteArray.empty, .string ByteArray.empty, .string ByteArray.empty, I, N] 27 (0, 0)) ∧
  wr.ownsRow w1.heap.size 27 8 I L.length xs ∧ wr.ownsRow w1.heap.size 9 1 N M.length (M.map Value.string) ∧ Flat S wr L xs
theorem Ins.ext {S : Nat → Prop} {w1 wr wx : World} {O : Nat} {kd : Int} {L : List Val} {M : List ByteArray} (h : Ins S w1 O kd L M wr) (hS : ∀ b, S b → b < w1.heap.size) (k : Ext wr wx) : Ins S w1 O kd L M wx := by
 obtain ⟨I, N, xs, h1, h2, h3, h4⟩ := h.rows
 exact ⟨h.grown.trans (GrownBy.of_ext _ k), I, N, xs, (k.block _ (zaf h1)).trans h1, zah h2 k, zah h3 k, h4.alike (Alike.of_ext k fun b hb => Nat.lt_of_lt_of_le (hS b hb) h.grown.size)⟩
theorem Ins.items_at {S : Nat → Prop} {w1 wr wx x3 x4 : World} {O n' : Nat} {kd : Int} {L L' : List Val} {M : List ByteArray} {I N I' : Value} {xs xs' cs : List Value} {x : Val} {p : Nat} (h : GrownBy w1 wr (some O)) (hwx : Ext wr wx) (hx3 : Ext wx x3)
  (_hO : wr.heap[O]? = some (.cells #[.int .i64 kd, .bool false, .int .i64 0, .string ByteArray.empty, .string ByteArray.empty, .string ByteArray.empty, I, N] 27 (0, 0))) (hOs : O < w1.heap.size)
  (hI' : x3.ownsRow wx.heap.size 27 8 I' n' xs') (hN : wr.ownsRow w1.heap.size 9 1 N M.length (M.map Value.string)) (hf : Flat S wr L xs) (hS : ∀ b, S b → b < w1.heap.size ∧ b ≠ O) (hva : Val.At S wr x cs) (hp : p ≤ L.length)
  (hn' : n' = L'.length) (hxs : xs' = xs.take (p * 8) ++ cs ++ xs.drop (p * 8)) (hL : L' = L.take p ++ x :: L.drop p)
  (hO4 : x4.heap[O]? = some (.cells #[.int .i64 kd, .bool false, .int .i64 0, .string ByteArray.empty, .string ByteArray.empty, .string ByteArray.empty, I', N] 27 (0, 0))) (g4 : GrownBy x3 x4 (some O)) :
  Ins S w1 O kd L' M x4 := by
 have hx := hwx.trans hx3
 have s1 := h.size
 have s2 := hx.size
 have hal : Alike S wr x4 := fun b hb => by
  obtain ⟨hb1, hb2⟩ := hS b hb
  rw [g4.block b (by omega) (fun e => by injection e with e; omega), hx.block b (by omega)]
 subst hn' hxs
 refine ⟨(h.trans (GrownBy.of_ext _ hx)).trans g4, I', N, xs.take (p * 8) ++ cs ++ xs.drop (p * 8), hO4, ?_, ?_, ?_⟩
 ·exact zaj (ownsRow_base hI' (Nat.le_trans s1 hwx.size)) g4 fun b hb e => by injection e with e; have := (hI'.lt b hb).1; have := hwx.size; omega
 ·exact zaj (zah hN hx) g4 fun b hb e => by injection e with e; have := (hN.lt b hb).1; omega
 ·rw [hL]
  exact Flat.insert (hva.alike hal) (hf.alike hal) hp
theorem Ins.items {S : Nat → Prop} {w1 wr wx x3 : World} {O n' : Nat} {kd : Int} {L L' : List Val} {M : List ByteArray} {I N I' : Value} {xs xs' cs : List Value} {x : Val} {p : Nat} (h : GrownBy w1 wr (some O)) (hwx : Ext wr wx) (hx3 : Ext wx x3)
  (hO : wr.heap[O]? = some (.cells #[.int .i64 kd, .bool false, .int .i64 0, .string ByteArray.empty, .string ByteArray.empty, .string ByteArray.empty, I, N] 27 (0, 0))) (hOs : O < w1.heap.size)
  (hI' : x3.ownsRow wx.heap.size 27 8 I' n' xs') (hN : wr.ownsRow w1.heap.size 9 1 N M.length (M.map Value.string)) (hf : Flat S wr L xs) (hS : ∀ b, S b → b < w1.heap.size ∧ b ≠ O) (hva : Val.At S wr x cs) (hp : p ≤ L.length)
  (hn' : n' = L'.length) (hxs : xs' = xs.take (p * 8) ++ cs ++ xs.drop (p * 8)) (hL : L' = L.take p ++ x :: L.drop p) :
  Ins S w1 O kd L' M (x3.setCell ⟨O, 6, none⟩ I') :=
 Ins.items_at h hwx hx3 hO hOs hI' hN hf hS hva hp hn' hxs hL (zaq (((hwx.trans hx3).block _ (zaf hO)).trans hO) 6 I') (GrownBy.setCell x3 O 6 I')
end Go.Proofs.YtebfoimbdljbmaaGreatDoor

/-
  A statement that makes one row of a call's own longer by one, in an order that Go leaves open: operations that come to known values, a row of one, an append. The conditions: none (lemmas).
-/
namespace Go.Proofs.YtebfoimbdljbmaaGreatDoor
open Go.RowKit
section one
variable (v0 : World) (base : Nat) (T : TypeId) (size : Nat) (R : Value) (k : Nat) (xs news : List Value) (vals : List Value)
end one
theorem exec_move {P : Program} {o : Oper} {a : Act} {w : World} {x : Operand} {v : Value} (ho : o.op = .move x) (hv : a.eval x = v) : (execOp a.eval o).run P w = .ok (.value v) w := by
 unfold execOp
 simp [ho, hv]
theorem exec_index {P : Program} {o : Oper} {a : Act} {w : World} {t : TypeId} {x y : Operand} {b off len cap i size : Nat} (ho : o.op = .indexAddr t x y) (hx : a.eval x = .slice (some ⟨b, off, none⟩) len cap) (hy : a.eval y = .int .i64 i) (ht : P.underlying t = some (.slice (P.elem t)))
  (hz : ∀ w, (Go.sizeOf (P.elem t)).run P w = .ok size w) (hi : i < len) : (execOp a.eval o).run P w = .ok (.value (.pointer (some ⟨b, off + i * size, none⟩))) w := by
 unfold execOp
 have h := run_indexAt_slice (P := P) w t ⟨b, off, none⟩ len cap .i64 (i : Int) ht
 rw [if_pos ⟨by omega, by omega⟩, hz w] at h
 have ha : (⟨b, off, none⟩ : Addr).add (i * size) = ⟨b, off + i * size, none⟩ := by
  unfold Addr.add
  by_cases h0 : i * size = 0
  ·rw [h0]; simp
  ·simp [h0]
 simp only [Int.toNat_natCast] at h
 simp [ho, hx, hy, h, ha]
theorem exec_alloc {P : Program} {o : Oper} {a : Act} {w w' : World} {t : TypeId} {v : Value} (ho : o.op = .alloc t) (hr : (Instr.alloc t true (.tuple #[])).run P w = .ok v w') : (execOp a.eval o).run P w = .ok (.value v) w' := by
 unfold execOp
 simp [ho, hr]
theorem zbl {P : Program} {o : Oper} {a : Act} {w w1 : World} {K : Act → World → Prop} {Q : Exit → Act → World → Prop} {Φ : Value → World → Prop} {v : Value} (hrun : (execOp a.eval o).run P w = .ok (.value v) w1) (hx : Ext w w1) (hv : Φ v w1) (hk : ∀ v w', Ext w w' → Φ v w' → K (a.put o.dst v) w') : o.wp P a w K Q := by
 unfold Oper.wp
 rw [hrun]
 exact hk v w1 hx hv
end Go.Proofs.YtebfoimbdljbmaaGreatDoor

/-
  A row that a call makes itself, of things that may lie anywhere else: one more, later, as a slice. No function of the program. The conditions: none (definitions and lemmas).
-/
namespace Go.Proofs.YtebfoimbdljbmaaGreatDoor
open Go.RowKit
def OwnL {α : Type} (R : Rep α) (T : TypeId) (base : Nat) (W : World) (v : Value) (l : List α) : Prop :=
 ∃ xs, W.ownsRow base T R.size v l.length xs ∧ R.Flat (fun b => b < W.heap.size ∧ v.ownBlock ≠ some b) W l xs
theorem Ext.cell {w w' : World} (h : Ext w w') {b o : Nat} {v : Value} (k : w.cell? ⟨b, o, none⟩ = some v) : w'.cell? ⟨b, o, none⟩ = some v :=
 (World.cell?_of_block (a := ⟨b, o, none⟩) (h.block b (World.block_lt_of_cell? w _ k))).trans k
section
variable {α : Type} {R : Rep α} {T : TypeId} {base : Nat} {W W' : World} {v v' : Value} {l : List α}
theorem OwnL.nil : OwnL R T base W (.slice none 0 0) [] := ⟨[], World.ownsRow_nil _ _ _ _, rfl⟩
theorem OwnL.ext (h : OwnL R T base W v l) (k : Ext W W') : OwnL R T base W' v l := by
 obtain ⟨xs, h1, h2⟩ := h
 exact ⟨xs, zah h1 k, (Rep.Flat.alike (Alike.of_ext k fun b hb => hb.1) h2).mono fun b hb => ⟨Nat.lt_of_lt_of_le hb.1 k.size, hb.2⟩⟩
theorem OwnL.push {x : α} {xs cs : List Value} (hf : R.Flat (fun b => b < W.heap.size ∧ v.ownBlock ≠ some b) W l xs) (hx : R.At (fun b => b < W.heap.size ∧ v.ownBlock ≠ some b) W x cs) (hg : GrownBy W W' v.ownBlock)
  (ho : W'.ownsRow base T R.size v' (l.length + 1) (xs ++ cs)) (hv : v'.ownBlock = v.ownBlock ∨ v'.ownBlock = some W.heap.size) : OwnL R T base W' v' (l ++ [x]) := by
 have hal : Alike (fun b => b < W.heap.size ∧ v.ownBlock ≠ some b) W W' := fun b hb => hg.block b hb.1 fun e => hb.2 e.symm
 refine ⟨xs ++ cs, by simpa using ho, ?_⟩
 refine Rep.Flat.mono (S := fun b => b < W.heap.size ∧ v.ownBlock ≠ some b) (fun b hb => ⟨Nat.lt_of_lt_of_le hb.1 hg.size, fun e => ?_⟩) (Rep.Flat.snoc (R.alike hx hal) (Rep.Flat.alike hal hf))
 rcases hv with hv | hv
 ·exact hb.2 (hv ▸ e)
 ·rw [hv] at e; injection e with e; have := hb.1; omega
theorem OwnL.rows (h : OwnL R T base W v l) (hl : l.length ≤ LIM) : R.RowsAt (fun b => b < W.heap.size) W l v := by
 obtain ⟨xs, h1, h2⟩ := h
 exact own_rows h1 h2 hl (fun b hb => hb.1) fun b hb => (h1.lt b hb).2
theorem OwnL.shape (h : OwnL R T base W v l) : ∃ A cap, v = .slice A l.length cap := by
 obtain ⟨xs, h1, _⟩ := h
 exact zap h1
theorem OwnL.lt (h : OwnL R T base W v l) : ∀ b, v.ownBlock = some b → base ≤ b ∧ b < W.heap.size := by
 obtain ⟨xs, h1, _⟩ := h
 exact h1.lt
end
end Go.Proofs.YtebfoimbdljbmaaGreatDoor

/-
  Entities that are few and small enough: what the statements' own measure says when it says so. The conditions: none beyond the contract's own.
-/
namespace Go.Proofs.YtebfoimbdljbmaaGreatDoor
open Go.RowKit
def SomeBool (P : Bool → Prop) (w : World) (e : Ending) (w' : World) : Prop := ∃ r : Bool, P r ∧ e = .returned (.bool r) ∧ Ext w w'
end Go.Proofs.YtebfoimbdljbmaaGreatDoor

/-
  What the program's places come to: a map from names to where they stand first. The conditions: the entities lie in memory as they should.
-/
namespace Go.Proofs.YtebfoimbdljbmaaGreatDoor
open Go.RowKit
theorem zak {w w1 w2 : World} {r : Option Nat} (h : Ext w w1) (k : GrownBy w1 w2 r) (hr : ∀ b, r = some b → w.heap.size ≤ b) : Ext w w2 :=
 ⟨⟨k.os.trans h.os, k.tape.trans h.tape, k.output.trans h.output, Nat.le_trans h.size k.size, fun i hi => (k.block i (Nat.lt_of_lt_of_le hi h.size) (fun e => by have := hr i e.symm; omega)).trans (h.block i hi)⟩, Nat.le_trans h.drawn k.drawn⟩
end Go.Proofs.YtebfoimbdljbmaaGreatDoor

/-
  Compaction of a row of things of one kind, in its midst. No function of the program. The conditions: none (definitions and lemmas).
-/
namespace Go.Proofs.YtebfoimbdljbmaaGreatDoor
open Go.RowKit
/-! ### rows of k cells -/
theorem flatten_getK {sz : Nat} : ∀ {rows : List (List Value)} {i j : Nat} {cs : List Value} {v : Value}, (∀ r ∈ rows, r.length = sz) → rows[i]? = some cs → cs[j]? = some v → rows.flatten[i * sz + j]? = some v
 | [], _, _, _, _, _, h, _ => by simp at h
 | r :: rs, 0, j, cs, v, hl, h, hj => by
  simp at h; subst h
  rw [List.flatten_cons, List.getElem?_append_left (by simpa using (List.getElem?_eq_some_iff.1 hj).1)]
  simpa using hj
 | r :: rs, i + 1, j, cs, v, hl, h, hj => by
  have h8 := hl r (by simp)
  rw [List.flatten_cons, List.getElem?_append_right (by rw [Nat.succ_mul]; omega), show (i + 1) * sz + j - r.length = i * sz + j by rw [Nat.succ_mul]; omega]
  exact flatten_getK (fun x hx => hl x (by simp [hx])) (by simpa using h) hj
theorem flatten_setK {sz : Nat} : ∀ {rows : List (List Value)} {i : Nat} {cs : List Value}, (∀ r ∈ rows, r.length = sz) → i < rows.length → cs.length = sz →
  rows.flatten.take (i * sz) ++ cs ++ rows.flatten.drop (i * sz + sz) = (rows.set i cs).flatten
 | [], _, _, _, h, _ => by simp at h
 | r :: rs, 0, cs, hl, _, hc => by
  have h8 := hl r (by simp)
  simp [h8]
 | r :: rs, i + 1, cs, hl, h, hc => by
  have h8 := hl r (by simp)
  have ih := flatten_setK (rows := rs) (i := i) (cs := cs) (fun x hx => hl x (by simp [hx])) (by simpa using h) hc
  rw [List.set_cons_succ, List.flatten_cons, List.flatten_cons, ← ih]
  rw [List.take_append, List.drop_append, List.take_of_length_le (by rw [Nat.succ_mul]; omega), List.drop_eq_nil_iff.2 (by rw [Nat.succ_mul]; omega), show (i + 1) * sz - r.length = i * sz by rw [Nat.succ_mul]; omega, show (i + 1) * sz + sz - r.length = i * sz + sz by rw [Nat.succ_mul]; omega]
  simp
structure MidG {α : Type} (R : Rep α) (c : α → α → Int) (S : Nat → Prop) (w : World) (g cap : Nat) (T : TypeId) (l : List α) (n0 kk q : Nat) (wr : World) : Prop where
 grown : GrownBy w wr (some g)
 len : (dedup c (l.take (n0 + q + 1))).length = kk
 le : kk ≤ n0 + q
 rows : ∃ rows : List (List Value), wr.heap[g]? = some (.cells rows.flatten.toArray T (0, 0)) ∧ rows.length = cap ∧ (∀ r ∈ rows, r.length = R.size) ∧
  (∀ (i : Nat) (x : α), (dedup c (l.take (n0 + q + 1)))[i]? = some x → ∃ cs, rows[i]? = some cs ∧ R.At S w x cs) ∧ (∀ (i : Nat) (x : α), n0 + q ≤ i → l[i]? = some x → ∃ cs, rows[i]? = some cs ∧ R.At S w x cs)
theorem MidG.ext {α : Type} {R : Rep α} {c : α → α → Int} {S : Nat → Prop} {w wr w' : World} {g cap : Nat} {T : TypeId} {l : List α} {n0 kk q : Nat} (h : MidG R c S w g cap T l n0 kk q wr) (k : Ext wr w') : MidG R c S w g cap T l n0 kk q w' := by
 obtain ⟨rows, h1, h2⟩ := h.rows
 exact ⟨h.grown.trans (GrownBy.of_ext _ k), h.len, h.le, rows, (k.block _ (zaf h1)).trans h1, h2⟩
theorem MidG.alike {α : Type} {R : Rep α} {c : α → α → Int} {S : Nat → Prop} {w wr : World} {g cap : Nat} {T : TypeId} {l : List α} {n0 kk q : Nat} (h : MidG R c S w g cap T l n0 kk q wr) (hS : ∀ b, S b → b < w.heap.size) (hg : ¬ S g) : Alike S w wr :=
 fun b hb => h.grown.block b (hS b hb) (fun e => by injection e with e; subst e; exact hg hb)
theorem MidG.old {α : Type} {R : Rep α} {c : α → α → Int} {S : Nat → Prop} {w wr : World} {g cap : Nat} {T : TypeId} {l : List α} {n0 kk q : Nat} {x y : α} (h : MidG R c S w g cap T l n0 kk q wr) (hx : l[n0 + q]? = some x) (hy : l[n0 + q + 1]? = some y) (h0 : c y x = 0) :
  MidG R c S w g cap T l n0 kk (q + 1) wr := by
 have hd : dedup c (l.take (n0 + q + 1 + 1)) = dedup c (l.take (n0 + q + 1)) := by rw [za9 hx hy, if_pos h0, List.append_nil]
 obtain ⟨rows, h1, h2, h3, h4, h5⟩ := h.rows
 refine ⟨h.grown, ?_, by have := h.le; omega, rows, h1, h2, h3, ?_, fun i z hi => h5 i z (by omega)⟩
 ·rw [show n0 + (q + 1) + 1 = n0 + q + 1 + 1 by omega, hd]; exact h.len
 ·rw [show n0 + (q + 1) + 1 = n0 + q + 1 + 1 by omega, hd]; exact h4
theorem MidG.new {α : Type} {R : Rep α} {c : α → α → Int} {S : Nat → Prop} {w wr : World} {g cap : Nat} {T : TypeId} {l : List α} {n0 kk q : Nat} {x y : α} {cur : Array Value} {cs : List Value} (h : MidG R c S w g cap T l n0 kk q wr) (hx : l[n0 + q]? = some x) (hy : l[n0 + q + 1]? = some y) (h0 : c y x ≠ 0)
  (hcur : wr.heap[g]? = some (.cells cur T (0, 0))) (hcs : R.At S w y cs) (hcap : l.length ≤ cap) :
  MidG R c S w g cap T l n0 (kk + 1) (q + 1) (wr.setRow g (cur.toList.take (kk * R.size) ++ cs ++ cur.toList.drop (kk * R.size + cs.length)).toArray) := by
 have hd : dedup c (l.take (n0 + q + 1 + 1)) = dedup c (l.take (n0 + q + 1)) ++ [y] := by rw [za9 hx hy, if_neg h0]
 obtain ⟨rows, h1, h2, h3, h4, h5⟩ := h.rows
 rw [h1] at hcur
 injection hcur with hcur
 injection hcur with hcur
 subst hcur
 have hle := h.le
 have hyl : n0 + q + 1 < l.length := (List.getElem?_eq_some_iff.1 hy).1
 have h8 := R.len hcs
 have hk : kk < rows.length := by omega
 have hset : (rows.flatten.toArray.toList.take (kk * R.size) ++ cs ++ rows.flatten.toArray.toList.drop (kk * R.size + cs.length)) = (rows.set kk cs).flatten := by
  rw [h8]; simpa using flatten_setK h3 hk h8
 rw [hset]
 refine ⟨h.grown.trans (GrownBy.setRow _ _ _), ?_, by omega, rows.set kk cs, zbq h1 _, by simpa using h2, fun r hr => ?_, fun i z hi => ?_, fun i z hi hz => ?_⟩
 ·rw [show n0 + (q + 1) + 1 = n0 + q + 1 + 1 by omega, hd, List.length_append, h.len]; rfl
 ·rcases List.mem_or_eq_of_mem_set hr with hr | rfl
  ·exact h3 r hr
  ·exact h8
 ·rw [show n0 + (q + 1) + 1 = n0 + q + 1 + 1 by omega, hd] at hi
  by_cases hik : i < kk
  ·rw [List.getElem?_append_left (by rw [h.len]; exact hik)] at hi
   obtain ⟨c, hc, hat⟩ := h4 i z hi
   exact ⟨c, by rw [List.getElem?_set_ne (by omega)]; exact hc, hat⟩
  ·rw [List.getElem?_append_right (by rw [h.len]; omega), h.len] at hi
   have : i = kk := by
    have := (List.getElem?_eq_some_iff.1 hi).1
    simp at this; omega
   subst this
   simp at hi; subst hi
   exact ⟨cs, by rw [List.getElem?_set_self hk], hcs⟩
 ·obtain ⟨c, hc, hat⟩ := h5 i z (by omega) hz
  exact ⟨c, by rw [List.getElem?_set_ne (by omega)]; exact hc, hat⟩
end Go.Proofs.YtebfoimbdljbmaaGreatDoor

/-
  The library's functions on rows of names: which one stands first, a copy, compaction; '==' of two names. The conditions: none beyond each contract's own.
-/
namespace Go.Proofs.YtebfoimbdljbmaaGreatDoor
open Go.RowKit
open Lib renaming hid → q_
set_option maxRecDepth 100000
set_option maxHeartbeats 400000
theorem eqlU_in (x y : Uid) (w : World) : (Op.equalIn 10000 23 (valU x) (valU y)).run Tryz.prog w = .ok (decide (x = y)) w := by
 have hS : Tryz.prog.underlying 23 = some (.struct (Tryz.prog.fieldsOf 23)) := by kernel_rfl
 have hp : Tryz.prog.stoodInHeld 23 = false := by kernel_rfl
 have u9 := Tryz.underlying9
 have a9 := Tryz.agg9
 have z9 : ∀ w, (Go.sizeOf 9).run Tryz.prog w = .ok 1 w := fun _ => by kernel_rfl
 unfold valU
 rw [show (10000 : Nat) = 9999 + 1 from rfl, run_equalIn_agg w 9999 _ _ _ hS hp]
 simp only [Program.fieldsOf, Tryz.underlying23]
 go_simp
 by_cases h1 : x.1 = y.1
 ·by_cases h2 : x.2 = y.2
  ·have : x = y := Prod.ext h1 h2
   simp [this]
  ·have : x ≠ y := fun e => h2 (by rw [e])
   have h3 : x.2.toList ≠ y.2.toList := fun e => h2 (toList_inj e)
   simp [h1, h3, this]
 ·have : x ≠ y := fun e => h1 (by rw [e])
  have h3 : x.1.toList ≠ y.1.toList := fun e => h1 (toList_inj e)
  simp [h3, this]
theorem eqlU (x y : Uid) (w : World) : (binOp .eql 23 (valU x) (valU y)).run Tryz.prog w = .ok (.bool (decide (x = y))) w := by
 have h := eqlU_in x y w
 unfold valU at h ⊢
 rw [run_eql_struct, h]; rfl
theorem guardU (op : BinOp) (p q : Operand) (x y : Uid) (w : World) : (eqGuard op 23 p q (valU x) (valU y)).run Tryz.prog w = .ok () w := run_eqGuard_agg w op _ p q _ _ (by kernel_rfl)
theorem indexFunc_okU (g : Nat) (cb : Array Value) (p : Uid → Bool) (S : Nat → Prop) (l : List Uid) (v : Value) (w : World) (eg : ∀ args w, (callFunc g args).run Tryz.prog w = .ok (.enter g args) w)
  (hS : ∀ b, S b → b < w.heap.size) (hl : uidR.RowsAt S w l v)
  (hc : ∀ x ∈ l, zaw x → ∀ (w1 : World), Ext w w1 → Calls Tryz.prog g (#[valU x] ++ cb) w1 fun e w' => e = .returned (.bool (p x)) ∧ Ext w1 w') :
  Calls Tryz.prog 81 #[v, .func (.func g) #[] cb] w fun e w' => e = .returned (.int .i64 (pos (fidx p l))) ∧ Ext w w' := by
 obtain ⟨A, cap, rfl, ⟨hl0, hl1, hl2⟩, hlr⟩ := hl
 rw [LIM_eq] at hl0
 rw [zat] at hl2
 have HL := q_ hlr
 have HS := q_ hS
 have HC := q_ hc
 clear hlr hS hc
 go_enter Tryz.func81, Tryz.ntmps81
 go_wp2_with fail
 go_loopw [8] (fun i wr => ∃ k : Nat, k ≤ l.length ∧ i = .int .i64 k ∧ Ext w wr ∧ Hid (∀ i x, i < k → l[i]? = some x → p x = false)) (fun i _ => l.length - (intOf i).toNat)
 case atStart => exact ⟨0, Nat.zero_le _, rfl, Ext.refl w, fun _ _ h => by omega⟩
 case round =>
  obtain ⟨k, hk, rfl, hext, Hall⟩ := hrel
  have HX := q_ hext
  clear hext
  by_cases hlt : k < l.length
  ·obtain ⟨b, o, rfl, hSb, hrow⟩ := HL.out (by omega)
   obtain ⟨x, hx⟩ : ∃ x, l[k]? = some x := ⟨_, List.getElem?_eq_getElem hlt⟩
   obtain ⟨cs, hca, rfl, hfit⟩ := hrow k x hx
   have Hca := q_ (hca.alike hSb (Alike.of_ext HX.out HS.out))
   have Hx := q_ hx
   have hgen := HC.out x (List.mem_of_getElem? hx) hfit wr HX.out
   generalize hpx : p x = px at *
   have HP := q_ hpx
   have HG := q_ hgen
   clear hx hca hrow hSb hpx hgen hfit
   go_wp2_with (first | refine zaa rfl 23 _ rfl b (o + k * 2) rfl zac zab rfl Hca.out ?_)
   refine HG.out.mono ?_
   rintro e w' ⟨rfl, hx2⟩
   have HX2 := q_ hx2
   clear hx2
   cases px
   ·go_wp2_with fail
    go_roundw
    case rel => exact ⟨k + 1, by omega, by go_num, HX.out.trans HX2.out, fun i y hi hy => by
     by_cases hik : i = k
     ·subst hik; rw [Hx.out] at hy; cases hy; exact HP.out
     ·exact Hall.out i y (by omega) hy⟩
    case measure => simp [intOf]; omega
   ·go_wp2_with fail
    go_ret
    exact ⟨ret_int (by rw [fidx_some Hx.out HP.out Hall.out]; rfl), HX.out.trans HX2.out⟩
  ·go_wp2_with fail
   go_ret
   have hke : k = l.length := by omega
   subst hke
   exact ⟨ret_int (by rw [fidx_none Hall.out]; rfl), HX.out⟩
theorem za5 (g : Nat) (cb : Array Value) (p : Uid → Bool) (S : Nat → Prop) (l : List Uid) (v : Value) (w : World) (eg : ∀ args w, (callFunc g args).run Tryz.prog w = .ok (.enter g args) w)
  (hS : ∀ b, S b → b < w.heap.size) (hl : uidR.RowsAt S w l v)
  (hc : ∀ x ∈ l, zaw x → ∀ (w1 : World), Ext w w1 → Calls Tryz.prog g (#[valU x] ++ cb) w1 fun e w' => e = .returned (.bool (p x)) ∧ Ext w1 w') :
  Calls Tryz.prog 45 #[v, .func (.func g) #[] cb] w fun e w' => e = .returned (.bool (l.any p)) ∧ Ext w w' := by
 have hi := indexFunc_okU g cb p S l v w eg hS hl hc
 rw [← fidx_isSome]
 cases hf : fidx p l with
 | none =>
  rw [hf] at hi
  have HI := q_ hi
  clear hi hc hS hl hf eg
  go_enter Tryz.func45, Tryz.ntmps45
  go_wp2_with (go_at_call 81; refine HI.out.mono ?_; rintro e w' ⟨rfl, hx2⟩; have HX2 := q_ hx2; clear hx2)
  go_ret
  exact ⟨rfl, HX2.out⟩
 | some i =>
  rw [hf] at hi
  have HI := q_ hi
  clear hi hc hS hl hf eg
  go_enter Tryz.func45, Tryz.ntmps45
  go_wp2_with (go_at_call 81; refine HI.out.mono ?_; rintro e w' ⟨rfl, hx2⟩; have HX2 := q_ hx2; clear hx2)
  go_ret
  exact ⟨ret_bool (by simp [pos]), HX2.out⟩
theorem zcd {S S' : Nat → Prop} {w w' : World} : ∀ {l : List Uid} {xs : List Value}, uidR.Flat S w l xs → uidR.Flat S' w' l xs
 | [], _, h => h
 | _ :: _, _, ⟨c, ys, e, hv, hr⟩ => ⟨c, ys, e, hv, zcd hr⟩
end Go.Proofs.YtebfoimbdljbmaaGreatDoor
