/-
  The library's sort at a row of values that a call has made itself. The conditions: none beyond the contract's own.
-/
import Derived.Shelf.SlGeneric
import Derived.Ground.SlsfProg
import Derived.Shelf.SlSortCmp.WholeK
import Derived.Test.YtebfoimbdljbmaaGreatDoorProg
import Derived.Shelf.SlSortCmp.NoneTotal
import Derived.Test.YtebfoimbdljbmaaGreatDoorGb
import Derived.Test.YtebfoimbdljbmaaGreatDoorGc
import Derived.Deep.OwnRows
import Derived.Test.YtebfoimbdljbmaaGreatDoorGd
namespace Go.Proofs.YtebfoimbdljbmaaGreatDoor
open Go.RowKit Go.Sort
section
variable {S : Nat → Prop} {w : World}
structure Elem (S : Nat → Prop) (w : World) where
 enc : List Value
 v : Val
 lies : Val.At S w v enc
instance : Inhabited (Elem S w) := ⟨⟨zeroCells, .zero, Val.zero_at S w⟩⟩
theorem Elem.len (x : Elem S w) : x.enc.length = 8 := x.lies.length
theorem Elem.one (x : Elem S w) : ∀ v ∈ x.enc, v.oneCell' = true := x.lies.one
end
end Go.Proofs.YtebfoimbdljbmaaGreatDoor

/-
  The library's sort at a row of things of one kind that a call has made itself. The conditions: none beyond the contract's own.
-/
namespace Go.Proofs.YtebfoimbdljbmaaGreatDoor
open Go.RowKit Go.Sort
section
variable {α : Type} {R : Rep α} {S : Nat → Prop} {w : World}
structure ElemG (R : Rep α) (S : Nat → Prop) (w : World) where
 enc : List Value
 v : α
 lies : R.At S w v enc
theorem ElemG.len (x : ElemG R S w) : x.enc.length = R.size := R.len x.lies
theorem ElemG.one (x : ElemG R S w) : ∀ v ∈ x.enc, v.oneCell' = true := R.one x.lies
end
end Go.Proofs.YtebfoimbdljbmaaGreatDoor

/-
  The state of the taking away in memory: a map, counts, and those that may be taken; what its closures do. The conditions: each contract's own.
-/
namespace Go.Proofs.YtebfoimbdljbmaaGreatDoor
open Go.RowKit
def OneBox (w : World) (b : Nat) (v : Value) (T : TypeId) : Prop := w.heap[b]? = some (.cells #[v] T (0, 0))
theorem OneBox.cell {w : World} {b : Nat} {v : Value} {T : TypeId} (h : OneBox w b v T) : w.cell? ⟨b, 0, none⟩ = some v := by rw [cell_of_row _ _ _ _ _ _ h]; rfl
theorem OneBox.free {w : World} {b : Nat} {v : Value} {T : TypeId} (h : OneBox w b v T) : w.frozen? ⟨b, 0, none⟩ = false := frozen_of_row _ _ _ _ _ h
theorem OneBox.new (w : World) (v : Value) (T : TypeId) : OneBox (w.alloc (.cells #[v] T)) w.heap.size v T := heap_alloc_new w _
theorem OneBox.block {w w' : World} {b : Nat} {v : Value} {T : TypeId} (h : OneBox w b v T) (k : w'.heap[b]? = w.heap[b]?) : OneBox w' b v T := k.trans h
theorem OneBox.set {w : World} {b : Nat} {u v : Value} {T : TypeId} (h : OneBox w b u T) : OneBox (w.setCell ⟨b, 0, none⟩ v) b v T := by
 have := zaq h 0 v
 exact this
def NatsAt (w : World) (g n : Nat) (f : Nat → Nat) : Prop := w.heap[g]? = some (.cells ((List.range n).map fun k => Value.int .i64 (f k)).toArray 3 (0, 0))
theorem NatsAt.cell {w : World} {g n : Nat} {f : Nat → Nat} (h : NatsAt w g n f) {k : Nat} (hk : k < n) : w.cell? ⟨g, k, none⟩ = some (.int .i64 (f k)) := by
 rw [cell_of_row _ _ _ _ _ _ h]; simp [hk]
theorem NatsAt.free {w : World} {g n : Nat} {f : Nat → Nat} (h : NatsAt w g n f) (k : Nat) : w.frozen? ⟨g, k, none⟩ = false := frozen_of_row _ _ _ _ _ h
theorem NatsAt.congr {w : World} {g n : Nat} {f f' : Nat → Nat} (h : NatsAt w g n f) (he : ∀ k, k < n → f k = f' k) : NatsAt w g n f' := by
 unfold NatsAt at *
 rw [h]
 have : (List.range n).map (fun k => Value.int .i64 (f k)) = (List.range n).map (fun k => Value.int .i64 (f' k)) := List.map_congr_left fun k hk => by rw [he k (List.mem_range.1 hk)]
 rw [this]
theorem NatsAt.set {w : World} {g n : Nat} {f : Nat → Nat} (h : NatsAt w g n f) {k : Nat} (hk : k < n) (x : Nat) : NatsAt (w.setCell ⟨g, k, none⟩ (.int .i64 x)) g n fun j => if j = k then x else f j := by
 have h1 := zaq h k (.int .i64 x)
 unfold NatsAt
 rw [h1]
 congr 2
 apply Array.ext'
 simp only [Array.toList_setIfInBounds]
 apply List.ext_getElem?
 intro j
 by_cases hj : j < n
 ·by_cases he : j = k
  ·subst he
   simp [hj]
  ·rw [List.getElem?_set_ne (Ne.symm he)]
   simp [hj, he]
 ·rw [List.getElem?_eq_none (by simp; omega), List.getElem?_eq_none (by simp; omega)]
structure KNum where
 bA : Nat
 B : Nat
 bB : Nat
 G : Nat
 bL : Nat
 n : Nat
structure KState (w0 : World) (q : KNum) (us : List Uid) (f : Nat → Nat) (L : List Nat) (w : World) : Prop where
 ext : Ext w0 w
 ord : w0.heap.size ≤ q.B ∧ q.B < q.bA ∧ q.bA < q.G ∧ q.G < q.bB ∧ q.bB < q.bL ∧ q.bL < w.heap.size
 at' : OneBox w q.bA (.map (some q.B)) 82
 map : MapU w q.B (idx us) q.n
 bel : OneBox w q.bB (.slice (some ⟨q.G, 0, none⟩) q.n q.n) 63
 nats : NatsAt w q.G q.n f
 left : ∃ v, OneBox w q.bL v 63 ∧ w.ownsRow (q.bL + 1) 3 1 v L.length (L.map fun k => Value.int .i64 (k : Nat))
section
variable {w0 : World} {q : KNum} {us : List Uid} {f : Nat → Nat} {L : List Nat} {w w' : World}
theorem KState.later (h : KState w0 q us f L w) (k : Ext w w') : KState w0 q us f L w' := by
 obtain ⟨o1, o2, o3, o4, o5, o6⟩ := h.ord
 obtain ⟨v, h1, h2⟩ := h.left
 have hb : ∀ b, b < w.heap.size → w'.heap[b]? = w.heap[b]? := fun b hb => k.block b hb
 exact ⟨h.ext.trans k, ⟨o1, o2, o3, o4, o5, Nat.lt_of_lt_of_le o6 k.size⟩, h.at'.block (hb _ (by omega)), h.map.ext k, h.bel.block (hb _ (by omega)), (hb _ (by omega)).trans h.nats, v, h1.block (hb _ (by omega)), zah h2 k⟩
theorem KState.other {r : Nat} (h : KState w0 q us f L w) (k : GrownBy w w' (some r)) (hr : w0.heap.size ≤ r) (hi : ∃ x y z u, w.heap[r]? = some (.mapIter x y z u)) : KState w0 q us f L w' := by
 obtain ⟨o1, o2, o3, o4, o5, o6⟩ := h.ord
 obtain ⟨v, h1, h2⟩ := h.left
 obtain ⟨x, y, z, u, hi⟩ := hi
 have hne : ∀ (b : Nat) (cs : Array Value) (T : TypeId), w.heap[b]? = some (Obj.cells cs T (0, 0)) → w'.heap[b]? = w.heap[b]? := fun b cs T hb => k.block b (zaf hb) fun e => by
  injection e with e; subst e; rw [hi] at hb; cases hb
 obtain ⟨es, clock, hm⟩ := h.map.isMap
 refine ⟨zak h.ext k fun b e => by injection e with e; omega, ⟨o1, o2, o3, o4, o5, Nat.lt_of_lt_of_le o6 k.size⟩, h.at'.block (hne _ _ _ h.at'), h.map.block (k.block _ h.map.lt fun e => by injection e with e; rw [e, hi] at hm; cases hm),
  h.bel.block (hne _ _ _ h.bel), (hne _ _ _ h.nats).trans h.nats, v, h1.block (hne _ _ _ h1), ?_⟩
 refine zaj h2 k fun b hb e => ?_
 injection e with e
 subst e
 obtain ⟨hx, hv⟩ := h2
 rcases hv with ⟨rfl, _⟩ | ⟨g, cap, cur, rfl, _, hh, _⟩
 ·cases hb
 ·simp only [Value.ownBlock] at hb
  obtain rfl := Option.some.inj hb
  rw [hi] at hh; cases hh
theorem KState.count (h : KState w0 q us f L w) {k : Nat} (hk : k < q.n) (x : Nat) : KState w0 q us (fun j => if j = k then x else f j) L (w.setCell ⟨q.G, k, none⟩ (.int .i64 x)) := by
 obtain ⟨o1, o2, o3, o4, o5, o6⟩ := h.ord
 obtain ⟨v, h1, h2⟩ := h.left
 have g := GrownBy.setCell w q.G k (.int .i64 x)
 have hb : ∀ b, b < w.heap.size → b ≠ q.G → (w.setCell ⟨q.G, k, none⟩ (.int .i64 x)).heap[b]? = w.heap[b]? := fun b hb hne => g.block b hb fun e => by injection e with e; exact hne e
 refine ⟨zak h.ext g fun b e => by injection e with e; omega, ⟨o1, o2, o3, o4, o5, Nat.lt_of_lt_of_le o6 g.size⟩, h.at'.block (hb _ (by omega) (by omega)), h.map.block (hb _ (by omega) (by omega)), h.bel.block (hb _ (by omega) (by omega)), h.nats.set hk x, v, h1.block (hb _ (by omega) (by omega)),
  zaj h2 g fun b hb e => ?_⟩
 injection e with e
 have := (h2.lt b hb).1
 omega
end
end Go.Proofs.YtebfoimbdljbmaaGreatDoor

/-
  What the program's Round comes to: whether some are above themselves. The conditions: the entities lie in memory as they should, no name is there twice.
-/
namespace Go.Proofs.YtebfoimbdljbmaaGreatDoor
open Go.RowKit
def skipL (us : List Uid) (left : Uid → Bool) (i : Nat) : Bool := match us[i]? with
 | some u => left u
 | none => true
theorem RangeU.apart {w w' : World} {b r : Nat} {m : Uid → Option Nat} {left : Uid → Bool} {cnt G : Nat} (h : RangeU w b r m left cnt) (k : GrownBy w w' (some G)) {cs : Array Value} {T : TypeId} (hG : w.heap[G]? = some (.cells cs T (0, 0))) : RangeU w' b r m left cnt := by
 obtain ⟨x, y, z, hi⟩ := h.isIter
 have hb : ∃ es clock, w.heap[b]? = some (.map es clock) := by
  obtain ⟨D, n, lf, ⟨es, clock, _, _, _, h1, _⟩, _⟩ := h
  exact ⟨es, clock, h1⟩
 obtain ⟨es, clock, hb⟩ := hb
 exact h.block (k.block _ h.lt.1 fun e => by injection e with e; rw [e, hG] at hb; cases hb) (k.block _ h.lt.2 fun e => by injection e with e; rw [e, hG] at hi; cases hi)
theorem RangeU.own {w w' : World} {b r : Nat} {m : Uid → Option Nat} {left : Uid → Bool} {cnt base n size : Nat} {e : TypeId} {v : Value} {xs : List Value} (h : RangeU w b r m left cnt) (k : GrownBy w w' v.ownBlock) (hown : w.ownsRow base e size v n xs) : RangeU w' b r m left cnt := by
 obtain ⟨hx, hv⟩ := hown
 rcases hv with ⟨rfl, _⟩ | ⟨g, cap, cur, rfl, _, hh, _⟩
 ·exact h.block (k.block _ h.lt.1 fun e => by cases e) (k.block _ h.lt.2 fun e => by cases e)
 ·exact h.apart k hh
def Pass1 (w0 : World) (q : KNum) (l : List Ent) (r : Nat) (left : Uid → Bool) (cnt : Nat) (rest : List Nat) (w : World) : Prop :=
 ∃ f, KState w0 q (l.map Ent.uid) f [] w ∧ RangeU w q.B r (idx (l.map Ent.uid)) left cnt ∧ ∀ k, k < l.length → f k + rest.count k = cntOut (parN l) (skipL (l.map Ent.uid) left) k l.length
theorem Pass1.later {w0 : World} {q : KNum} {l : List Ent} {r : Nat} {left : Uid → Bool} {cnt : Nat} {rest : List Nat} {w w' : World} (h : Pass1 w0 q l r left cnt rest w) (k : Ext w w') : Pass1 w0 q l r left cnt rest w' := by
 obtain ⟨f, h1, h2, h3⟩ := h
 exact ⟨f, h1.later k, h2.ext k, h3⟩
def Pass3 (w0 : World) (q : KNum) (l : List Ent) (R : List Nat) (rest : List Nat) (w : World) : Prop :=
 rest.length ≤ 1048576 ∧ ∃ f L, KState w0 q (l.map Ent.uid) f L w ∧ Mid3 (parN l) l.length R L rest f
theorem Pass3.later {w0 : World} {q : KNum} {l : List Ent} {R rest : List Nat} {w w' : World} (h : Pass3 w0 q l R rest w) (k : Ext w w') : Pass3 w0 q l R rest w' := by
 obtain ⟨h0, f, L, h1, h2⟩ := h
 exact ⟨h0, f, L, h1.later k, h2⟩
end Go.Proofs.YtebfoimbdljbmaaGreatDoor

/-
  The library's sort at a row of named values that a call has made itself. The conditions: none beyond the contract's own.
-/
namespace Go.Proofs.YtebfoimbdljbmaaGreatDoor
open Go.RowKit Go.Sort
abbrev Fld := ByteArray × Val
def FldAt (S : Nat → Prop) (w : World) (p : Fld) (cs : List Value) : Prop := ∃ c, cs = .string p.1 :: c ∧ Val.At S w p.2 c
theorem FldAt.length {S : Nat → Prop} {w : World} {p : Fld} {cs : List Value} (h : FldAt S w p cs) : cs.length = 9 := by
 obtain ⟨c, rfl, h⟩ := h
 simp [h.length]
theorem FldAt.one {S : Nat → Prop} {w : World} {p : Fld} {cs : List Value} (h : FldAt S w p cs) : ∀ u ∈ cs, u.oneCell' = true := by
 obtain ⟨c, rfl, h⟩ := h
 intro u hu
 rcases List.mem_cons.1 hu with rfl | hu
 ·rfl
 ·exact h.one u hu
theorem FldAt.alike {S : Nat → Prop} {w w' : World} {p : Fld} {cs : List Value} (h : FldAt S w p cs) (k : Alike S w w') : FldAt S w' p cs := by
 obtain ⟨c, rfl, h⟩ := h
 exact ⟨c, rfl, h.alike k⟩
theorem FldAt.mono {S S' : Nat → Prop} {w : World} {p : Fld} {cs : List Value} (h : FldAt S w p cs) (k : ∀ b, S b → S' b) : FldAt S' w p cs := by
 obtain ⟨c, rfl, h⟩ := h
 exact ⟨c, rfl, h.mono k⟩
def FlatF (S : Nat → Prop) (w : World) : List Fld → List Value → Prop
 | [], xs => xs = []
 | v :: r, xs => ∃ cs ys, xs = cs ++ ys ∧ FldAt S w v cs ∧ FlatF S w r ys
theorem FlatF.alike {S : Nat → Prop} {w w' : World} (k : Alike S w w') : ∀ {l : List Fld} {xs : List Value}, FlatF S w l xs → FlatF S w' l xs
 | [], _, h => h
 | _ :: _, _, ⟨c, ys, e, hv, hr⟩ => ⟨c, ys, e, hv.alike k, FlatF.alike k hr⟩
theorem FlatF.mono {S S' : Nat → Prop} {w : World} (k : ∀ b, S b → S' b) : ∀ {l : List Fld} {xs : List Value}, FlatF S w l xs → FlatF S' w l xs
 | [], _, h => h
 | _ :: _, _, ⟨c, ys, e, hv, hr⟩ => ⟨c, ys, e, hv.mono k, FlatF.mono k hr⟩
theorem FlatF.length {S : Nat → Prop} {w : World} : ∀ {l : List Fld} {xs : List Value}, FlatF S w l xs → xs.length = l.length * 9
 | [], _, h => by simp only [FlatF] at h; subst h; rfl
 | _ :: r, _, ⟨c, ys, e, hv, hr⟩ => by
  subst e
  have := hv.length
  have := FlatF.length hr
  simp; omega
theorem FlatF.get {S : Nat → Prop} {w : World} : ∀ {l : List Fld} {xs : List Value} {i : Nat} {x : Fld}, FlatF S w l xs → l[i]? = some x → ∃ cs, cs.length = 9 ∧ FldAt S w x cs ∧ ∀ j v, cs[j]? = some v → xs[i * 9 + j]? = some v
 | [], _, _, _, _, h => by simp at h
 | v :: r, _, 0, x, ⟨c, ys, e, hv, hr⟩, h => by
  simp at h; subst h; subst e
  refine ⟨c, hv.length, hv, fun j u hj => ?_⟩
  rw [List.getElem?_append_left (by simpa using (List.getElem?_eq_some_iff.1 hj).1)]
  simpa using hj
 | v :: r, _, i + 1, x, ⟨c, ys, e, hv, hr⟩, h => by
  subst e
  obtain ⟨cs, h1, h2, h3⟩ := FlatF.get hr (i := i) (x := x) (by simpa using h)
  refine ⟨cs, h1, h2, fun j u hj => ?_⟩
  have := hv.length
  rw [List.getElem?_append_right (by omega), show (i + 1) * 9 + j - c.length = i * 9 + j from by omega]
  exact h3 j u hj
section
variable {S : Nat → Prop} {w : World}
structure ElemF (S : Nat → Prop) (w : World) where
 enc : List Value
 v : Fld
 lies : FldAt S w v enc
instance : Inhabited (ElemF S w) := ⟨⟨.string ByteArray.empty :: zeroCells, (ByteArray.empty, .zero), ⟨zeroCells, rfl, Val.zero_at S w⟩⟩⟩
theorem ElemF.len (x : ElemF S w) : x.enc.length = 9 := x.lies.length
theorem ElemF.one (x : ElemF S w) : ∀ v ∈ x.enc, v.oneCell' = true := x.lies.one
end
end Go.Proofs.YtebfoimbdljbmaaGreatDoor

/-
  What the program's record of names and items comes to. The conditions: the names and the items lie in blocks of S, as many names as items.
-/
namespace Go.Proofs.YtebfoimbdljbmaaGreatDoor
open Go.RowKit
/-! ### what rises -/
structure Making (S : Nat → Prop) (w2 : World) (O : Nat) (l' : List Fld) (k : Nat) (wr : World) : Prop where
 grown : GrownBy w2 wr (some O)
 rows : ∃ (I N : Value) (xs : List Value), wr.heap[O]? = some (.cells #[.int .i64 6, .bool false, .int .i64 0, .string ByteArray.empty, .string ByteArray.empty, .string ByteArray.empty, I, N] 27 (0, 0)) ∧
  wr.ownsRow w2.heap.size 27 8 I k xs ∧ wr.ownsRow w2.heap.size 9 1 N k ((l'.take k).map fun p => .string p.1) ∧ Flat S wr ((l'.take k).map (·.2)) xs ∧ (∀ b, I.ownBlock = some b → N.ownBlock ≠ some b)
theorem Making.next {S : Nat → Prop} {W2 wr w3 w4 : World} {O k : Nat} {l' : List Fld} {p : Fld} {I N I' N' : Value} {xsI cs : List Value} (h : GrownBy W2 wr (some O)) (hx3 : Ext wr w3)
  (hO3 : w3.heap[O]? = some (.cells #[.int .i64 6, .bool false, .int .i64 0, .string ByteArray.empty, .string ByteArray.empty, .string ByteArray.empty, I, N] 27 (0, 0))) (hOs : O < W2.heap.size) (hinv : TwoInv w3 I N w4)
  (hI : w3.ownsRow W2.heap.size 27 8 I k xsI) (hN : w3.ownsRow W2.heap.size 9 1 N k ((l'.take k).map fun p => .string p.1)) (hf : Flat S wr ((l'.take k).map (·.2)) xsI) (hS : ∀ b, S b → b < W2.heap.size ∧ b ≠ O)
  (h5 : Longer w3 W2.heap.size k 9 1 N ((l'.take k).map fun p => .string p.1) [.string p.1] N' w4) (h11 : Longer w3 W2.heap.size k 27 8 I xsI cs I' w4) (hne : ∀ b, N'.ownBlock = some b → I'.ownBlock ≠ some b) (hp : l'[k]? = some p) (hva : Val.At S wr p.2 cs) :
  Making S W2 O l' (k + 1) ((w4.setCell ⟨O, 7, none⟩ N').setCell ⟨O, 6, none⟩ I') := by
 have hIb : ∀ b, I.ownBlock = some b → W2.heap.size ≤ b := fun b hb => (hI.lt b hb).1
 have hNb : ∀ b, N.ownBlock = some b → W2.heap.size ≤ b := fun b hb => (hN.lt b hb).1
 have hO4 := (hinv.block O (zaf hO3) (fun e => by have := hIb O e; omega) (fun e => by have := hNb O e; omega)).trans hO3
 have hO5 := zaq hO4 7 N'
 have hO6 := zaq hO5 6 I'
 have g4 : GrownBy w4 ((w4.setCell ⟨O, 7, none⟩ N').setCell ⟨O, 6, none⟩ I') (some O) := (GrownBy.setCell w4 O 7 N').trans (GrownBy.setCell _ O 6 I')
 have g3 : GrownBy W2 w4 (some O) := ⟨⟨hinv.os.trans (hx3.os.trans h.os), hinv.tape.trans (hx3.tape.trans h.tape), hinv.output.trans (hx3.output.trans h.output), Nat.le_trans h.size (Nat.le_trans hx3.size hinv.size), fun b hb hbo => by
  have s1 := h.size
  have s2 := hx3.size
  rw [hinv.block b (by omega) (fun e => by have := hIb b e; omega) (fun e => by have := hNb b e; omega), hx3.block b (by omega), h.block b hb hbo]⟩, Nat.le_trans h.drawn (Nat.le_trans hx3.drawn hinv.drawn)⟩
 have hal : Alike S wr ((w4.setCell ⟨O, 7, none⟩ N').setCell ⟨O, 6, none⟩ I') := fun b hb => by
  have s1 := h.size
  have s2 := hx3.size
  have s3 := hinv.size
  obtain ⟨hb1, hb2⟩ := hS b hb
  rw [g4.block b (by omega) (fun e => by injection e with e; omega), hinv.block b (by omega) (fun e => by have := hIb b e; omega) (fun e => by have := hNb b e; omega), hx3.block b (by omega)]
 refine ⟨g3.trans g4, I', N', xsI ++ cs, hO6, ?_, ?_, ?_, fun b hb hb' => hne b hb' hb⟩
 ·exact zaj h11.1 g4 fun b hb e => by injection e with e; have := (h11.1.lt b hb).1; omega
 ·rw [zbi hp, List.map_append]
  exact zaj h5.1 g4 fun b hb e => by injection e with e; have := (h5.1.lt b hb).1; omega
 ·rw [zbi hp, List.map_append]
  exact Flat.snoc (hva.alike hal) (hf.alike hal)
end Go.Proofs.YtebfoimbdljbmaaGreatDoor

/-
  A statement whose order Go leaves open: each operation is shown from a relation on what is done, on the slots and on the world; then a tail in a forced order. The conditions: none (lemmas on the model).
-/
namespace Go.Proofs.YtebfoimbdljbmaaGreatDoor
open Go.RowKit
def done (L : Nat → Bool) (i : Nat) : Nat → Bool := fun j => if j = i then true else L j
theorem done_self (L : Nat → Bool) (i : Nat) : done L i i = true := by simp [done]
theorem zbn {L : Nat → Bool} {i j : Nat} (h : j ≠ i) : done L i j = L j := by simp [done, h]
section
variable {P : Program} {l : List Oper} {n : Nat} {a0 : Act} {J : (Nat → Bool) → List Value → World → Prop}
def InvStep (P : Program) (l : List Oper) (n : Nat) (a0 : Act) (J : (Nat → Bool) → List Value → World → Prop) (i : Nat) (o : Oper) : Prop :=
 ∀ (L : Nat → Bool) (xs : List Value) (w : World), xs.length = n → J L xs w → L i = false → (∀ j, j < n → waits l i j = true → L j = true) → (∀ j k, j < n → k < n → L j = true → waits l j k = true → L k = true) →
  ∀ (Q : Exit → Act → World → Prop) (K : Act → World → Prop), (∀ v w', J (done L i) (xs.set i v) w' → K ((zao a0 (l.take n) xs).put o.dst v) w') →
   if Region.wanted o (yielded l.toArray (zao a0 (l.take n) xs).tmps) then o.wp P (zao a0 (l.take n) xs) w K Q else K ((zao a0 (l.take n) xs).put o.dst undef) w
theorem inv_any (hB : monoB l n = true) (hJ : ∀ L L' xs w, (∀ i, i < n → L i = L' i) → J L xs w → J L' xs w) (hstep : ∀ i o, i < n → l[i]? = some o → InvStep P l n a0 J i o)
  {Q : Exit → Act → World → Prop} (hQ : ∀ L xs w, xs.length = n → (∀ i, i < n → L i = true) → J L xs w → wpList P l.toArray Q (l.drop n) (zao a0 (l.take n) xs) w) :
  ∀ (k : Nat) (listed : Array Bool) (xs : List Value) (w : World), unlisted n listed = k → HeadInv .any l.toArray n listed → xs.length = n → J (fun i => listed.getD i true) xs w →
   wpAny P .any l.toArray Q (k + (l.length - n)) listed (zao a0 (l.take n) xs) w := by
 simp only [monoB, Bool.and_eq_true, Bool.or_eq_true, decide_eq_true_eq] at hB
 obtain ⟨⟨⟨⟨hn, hd⟩, hac⟩, htail⟩, hseq⟩ := hB
 intro k
 induction k with
 | zero =>
  intro listed xs w hk inv hl hI
  have hall : ∀ i, i < n → listed.getD i true = true := fun i hi => by
   have h0 := List.countP_eq_zero.1 hk i (by simpa using hi)
   simpa using h0
  have hls : listed.size = l.length := by simpa using inv.size
  have he : listed = headDone n l.length := by
   apply Array.ext_getElem?
   intro i
   by_cases hi : i < n
   ·have h1 := hall i hi
    have h2 : i < listed.size := by omega
    rw [Array.getD_eq_getD_getElem?, Array.getElem?_eq_getElem h2] at h1
    rw [Array.getElem?_eq_getElem h2]
    simp only [Option.getD_some] at h1
    simp only [headDone, h1, List.getElem?_toArray]
    rw [List.getElem?_append_left (by simpa using hi), List.getElem?_replicate, if_pos hi]
   ·by_cases hi2 : i < l.length
    ·have h1 := inv.tail i (by omega) (by simpa using hi2)
     have h2 : i < listed.size := by omega
     rw [Array.getD_eq_getD_getElem?, Array.getElem?_eq_getElem h2] at h1
     rw [Array.getElem?_eq_getElem h2]
     simp only [Option.getD_some] at h1
     simp only [headDone, h1]
     rw [List.getElem?_toArray, List.getElem?_append_right (by simpa using Nat.le_of_not_lt hi), List.getElem?_replicate]
     rw [if_pos (by simp; omega)]
    ·rw [Array.getElem?_eq_none (by omega)]
     rw [Array.getElem?_eq_none (by simp [headDone]; omega)]
  have hw := hQ _ xs w hl hall hI
  rw [Nat.zero_add]
  have := wpAny_of_seq (md := .any) (Q' := Q) (l.drop n) n listed (zao a0 (l.take n) xs) w (fun j => by simp [List.getElem?_drop]) (by rw [he]; simpa using hseq) hw
  simpa using this
 | succ k ih =>
  intro listed xs w hk inv hl hI
  have hls : listed.size = l.length := by simpa using inv.size
  obtain ⟨i0, hi0, hu0⟩ : ∃ i, i < n ∧ listed.getD i true = false := by
   have h0 : 0 < (List.range n).countP fun i => !listed.getD i true := by unfold unlisted at hk; omega
   obtain ⟨i, hi, hp⟩ := List.countP_pos_iff.1 h0
   exact ⟨i, by simpa using hi, by simpa using hp⟩
  have hready : Region.ready .any l.toArray listed ≠ [] := by
   have hmin : ∀ m i, i < m → i < n → listed.getD i true = false → ∃ j, j ∈ Region.ready .any l.toArray listed := by
    intro m
    induction m with
    | zero => intro i h; omega
    | succ m ihm =>
     intro i him hin hiu
     by_cases hex : ∃ j, j < i ∧ listed.getD j true = false
     ·obtain ⟨j, hj, hju⟩ := hex
      exact ihm j (by omega) (by omega) hju
     ·refine ⟨i, mem_ready.2 ⟨hiu, l[i]'(by omega), by simp, fun e he hb => ?_⟩⟩
      have h1 := List.all_eq_true.1 hac (l[i]'(by omega), i) (List.mem_zipIdx_iff_getElem?.2 (by rw [List.getElem?_take, if_pos hin]; exact List.getElem?_eq_getElem _))
      have h2 := Array.all_eq_true'.1 h1 e he
      simp only [hb, Bool.not_true, Bool.false_or, decide_eq_true_eq] at h2
      have h3 : listed.getD e.on true = true := by
       cases h : listed.getD e.on true with
       | true => rfl
       | false => exact absurd ⟨e.on, h2, h⟩ hex
      have h4 : e.on < listed.size := by omega
      rw [Array.getD_eq_getD_getElem?, Array.getElem?_eq_getElem h4] at h3 ⊢
      simpa using h3
   obtain ⟨j, hj⟩ := hmin (i0 + 1) i0 (by omega) hi0 hu0
   intro h; rw [h] at hj; cases hj
  rw [show k + 1 + (l.length - n) = (k + (l.length - n)) + 1 by omega]
  refine ⟨fun h => absurd h hready, fun i hi => ?_⟩
  obtain ⟨hiu, o, ho, hall⟩ := mem_ready.1 hi
  have hin : i < n := by
   rcases htail with h | ⟨⟨hnl, hs⟩, hc⟩
   ·have := (Array.getElem?_eq_some_iff.1 ho).1
    simp at this; omega
   ·rcases Nat.lt_or_ge i n with h | h
    ·exact h
    ·exact absurd hi (tail_waits hs hc (by simpa using hnl) inv _ i0 rfl hi0 hu0 i h)
  have ho' : l[i]? = some o := by simpa using ho
  have hfacts : ∀ j, j < n → waits l i j = true → listed.getD j true = true := fun j hj hwt => by
   unfold waits at hwt
   rw [ho'] at hwt
   obtain ⟨e, he, hbe⟩ := Array.any_eq_true'.1 hwt
   simp only [Bool.and_eq_true, beq_iff_eq] at hbe
   have h1 := hall e he hbe.1
   rw [hbe.2] at h1
   have h4 : j < listed.size := by omega
   rw [Array.getD_eq_getD_getElem?, Array.getElem?_eq_getElem h4] at h1 ⊢
   simpa using h1
  have hclosed : ∀ j m, j < n → m < n → listed.getD j true = true → waits l j m = true → listed.getD m true = true := fun j m hj hm hjl hw => by
   unfold waits at hw
   have hjlt : j < l.length := by omega
   rw [List.getElem?_eq_getElem hjlt] at hw
   obtain ⟨e, he, hbe⟩ := Array.any_eq_true'.1 hw
   simp only [Bool.and_eq_true, beq_iff_eq] at hbe
   have h1 := inv.closed j l[j] (by simp [hjlt]) (by
    have h4 : j < listed.size := by omega
    rw [Array.getD_eq_getD_getElem?, Array.getElem?_eq_getElem h4] at hjl ⊢
    simpa using hjl) e he hbe.1
   rw [hbe.2] at h1
   have h4 : m < listed.size := by omega
   rw [Array.getD_eq_getD_getElem?, Array.getElem?_eq_getElem h4] at h1 ⊢
   simpa using h1
  have hi2 : i < listed.size := by omega
  have hnext : ∀ v w', J (done (fun j => listed.getD j true) i) (xs.set i v) w' → wpAny P .any l.toArray Q (k + (l.length - n)) (listed.setIfInBounds i true) ((zao a0 (l.take n) xs).put o.dst v) w' := by
   intro v w' hv
   rw [putAll_set (l.take n) xs a0 i o hd (by rw [List.getElem?_take, if_pos hin]; exact ho') (by simp; omega)]
   refine ih _ (xs.set i v) w' (by have := unlisted_set hin hiu; omega) (inv.set hi hin) (by simpa using hl) (hJ _ _ _ _ (fun j hj => ?_) hv)
   by_cases hji : j = i
   ·subst hji
    rw [done_self]; simp [hi2]
   ·rw [zbn hji, getD_set_ne true (Ne.symm hji)]
  have hs := hstep i o hin ho' (fun j => listed.getD j true) xs w hl hI hiu hfacts hclosed Q (wpAny P .any l.toArray Q (k + (l.length - n)) (listed.setIfInBounds i true)) hnext
  unfold wpOp
  simp only [ho]
  split
  ·rename_i hw; rw [if_pos hw] at hs; exact .inl hs
  ·rename_i hw; rw [if_neg hw] at hs; exact hs
theorem region_inv0 {id : Nat} {Q : Exit → Act → World → Prop} {w : World} (hm : P.follows .mixedOrders = true) (hB : monoB l n = true) (hJ : ∀ L L' xs w, (∀ i, i < n → L i = L' i) → J L xs w → J L' xs w)
  (h0 : ∀ xs, xs.length = n → J (fun _ => false) xs w.drew) (hstep : ∀ i o, i < n → l[i]? = some o → InvStep P l n a0 J i o)
  (hQ : ∀ L xs w, xs.length = n → (∀ i, i < n → L i = true) → J L xs w → wpList P l.toArray Q (l.drop n) (zao a0 (l.take n) xs) w) : (Code.region id l.toArray true).wp P Q a0 w := by
 refine wp_region_any hm ?_
 have hn : n ≤ l.length := by
  simp only [monoB, Bool.and_eq_true, decide_eq_true_eq] at hB
  exact hB.1.1.1.1
 have h := inv_any (Q := Q) hB hJ hstep hQ n (Array.replicate l.toArray.size false) (slotsOf a0 (l.take n)) w.drew (by
   unfold unlisted
   rw [List.countP_eq_length.2 (by
    intro i hi
    have hi' : i < n := by simpa using hi
    have : i < l.length := by omega
    simp [this])]
   simp) ⟨by simp, fun j oj _ hl => (by rw [getD_replicate_false] at hl; cases hl), fun t _ ht => getD_in (by simpa using ht) (getD_replicate_false _ _)⟩ (by simp [slotsOf]; omega)
   (hJ _ _ _ _ (fun i hi => by
    have : i < l.length := by omega
    simp [this]) (h0 _ (by simp [slotsOf]; omega)))
 rw [putAll_slots] at h
 rw [show n + (l.length - n) = l.toArray.size by simp; omega] at h
 exact h
end
/-! ### the slots, by what the operations say -/
def dstIs (l : List Oper) (j t : Nat) : Bool := match l[j]? with
 | some o => o.dst == some t
 | none => false
def notDst (l : List Oper) (n t : Nat) : Bool := (l.take n).all fun o => o.dst != some t
theorem putAll_at2 {t : Tmp} : ∀ (l : List Oper) (xs : List Value) (a : Act) (i : Nat) (o : Oper), zbc l = true → l[i]? = some o → o.dst = some t → xs.length = l.length → t < a.tmps.size → (zao a l xs).eval (.tmp t) = xs.getD i undef
 | [], _, _, _, _, _, h, _, _, _ => by simp at h
 | _ :: _, [], _, _, _, _, _, _, h, _ => by simp at h
 | p :: r, x :: s, a, 0, o, hd, h, ho, hl, ht => by
  simp at h; subst h
  simp only [zbc, Bool.and_eq_true, ho] at hd
  rw [zao, putAll_old, ho, Act.eval_put_same ht]
  ·rfl
  ·intro q hq
   simpa using List.all_eq_true.1 hd.1 q hq
 | p :: r, x :: s, a, i + 1, o, hd, h, ho, hl, ht => by
  simp only [zbc, Bool.and_eq_true] at hd
  rw [zao, putAll_at2 r s _ i o hd.2 (by simpa using h) ho (by simpa using hl) (by rw [Act.size_put]; exact ht)]
  simp
/-! ### operations of which some act one behind the other, and all others come to known values -/
end Go.Proofs.YtebfoimbdljbmaaGreatDoor
