/-
  The state of the taking away in memory: a map, counts, and those that may be taken; what its closures do. The conditions: each contract's own.
-/
import Derived.Test.YtpkgkabcikmopaaPlaces
import Derived.Test.YtpkgkabcikmopaaTwo
import Derived.Deep.OwnRows
namespace Go.Proofs.Ytpkgkabcikmopaa
open Go.RowKit

/-- one cell in a block -/
def OneBox (w : World) (b : Nat) (v : Value) (T : TypeId) : Prop := w.heap[b]? = some (.cells #[v] T (0, 0))
theorem OneBox.cell {w : World} {b : Nat} {v : Value} {T : TypeId} (h : OneBox w b v T) : w.cell? ⟨b, 0, none⟩ = some v := by rw [cell_of_row _ _ _ _ _ _ h]; rfl
theorem OneBox.free {w : World} {b : Nat} {v : Value} {T : TypeId} (h : OneBox w b v T) : w.frozen? ⟨b, 0, none⟩ = false := frozen_of_row _ _ _ _ _ h
theorem OneBox.new (w : World) (v : Value) (T : TypeId) : OneBox (w.alloc (.cells #[v] T)) w.heap.size v T := heap_alloc_new w _
theorem OneBox.block {w w' : World} {b : Nat} {v : Value} {T : TypeId} (h : OneBox w b v T) (k : w'.heap[b]? = w.heap[b]?) : OneBox w' b v T := k.trans h
theorem OneBox.set {w : World} {b : Nat} {u v : Value} {T : TypeId} (h : OneBox w b u T) : OneBox (w.setCell ⟨b, 0, none⟩ v) b v T := by
  have := heap_setCell_at h 0 v
  exact this

/-- so many numbers in a block -/
def NatsAt (w : World) (g n : Nat) (f : Nat → Nat) : Prop := w.heap[g]? = some (.cells ((List.range n).map fun k => Value.int .i64 (f k)).toArray 3 (0, 0))
theorem NatsAt.cell {w : World} {g n : Nat} {f : Nat → Nat} (h : NatsAt w g n f) {k : Nat} (hk : k < n) : w.cell? ⟨g, k, none⟩ = some (.int .i64 (f k)) := by
  rw [cell_of_row _ _ _ _ _ _ h]; simp [hk]
theorem NatsAt.free {w : World} {g n : Nat} {f : Nat → Nat} (h : NatsAt w g n f) (k : Nat) : w.frozen? ⟨g, k, none⟩ = false := frozen_of_row _ _ _ _ _ h
theorem NatsAt.congr {w : World} {g n : Nat} {f f' : Nat → Nat} (h : NatsAt w g n f) (he : ∀ k, k < n → f k = f' k) : NatsAt w g n f' := by
  unfold NatsAt at *
  rw [h]
  have : (List.range n).map (fun k => Value.int .i64 (f k)) = (List.range n).map (fun k => Value.int .i64 (f' k)) := List.map_congr_left fun k hk => by rw [he k (List.mem_range.1 hk)]
  rw [this]
theorem NatsAt.set {w : World} {g n : Nat} {f : Nat → Nat} (h : NatsAt w g n f) {k : Nat} (hk : k < n) (x : Nat) : NatsAt (w.setCell ⟨g, k, none⟩ (.int .i64 x)) g n fun j => if j = k then x else f j := by
  have h1 := heap_setCell_at h k (.int .i64 x)
  unfold NatsAt
  rw [h1]
  congr 2
  apply Array.ext'
  simp only [Array.toList_setIfInBounds]
  apply List.ext_getElem?
  intro j
  by_cases hj : j < n
  · by_cases he : j = k
    · subst he
      simp [hj]
    · rw [List.getElem?_set_ne (Ne.symm he)]
      simp [hj, he]
  · rw [List.getElem?_eq_none (by simp; omega), List.getElem?_eq_none (by simp; omega)]
theorem NatsAt.made (w : World) (n : Nat) : NatsAt (w.alloc (.cells (madeCells #[.int .i64 0] n) 3)) w.heap.size n fun _ => 0 := by
  unfold NatsAt
  rw [heap_alloc_new]
  congr 2
  apply Array.ext'
  rw [toList_madeCells_one]
  apply List.ext_getElem?
  intro j
  by_cases hj : j < n
  · simp [hj]
  · rw [List.getElem?_eq_none (by simp; omega), List.getElem?_eq_none (by simp; omega)]

/-- the numbers of the blocks -/
structure KNum where
  bA : Nat
  B : Nat
  bB : Nat
  G : Nat
  bL : Nat
  n : Nat

/-- the state: a map from names to numbers, how many are below each, those that may be taken -/
structure KState (w0 : World) (q : KNum) (us : List Uid) (f : Nat → Nat) (L : List Nat) (w : World) : Prop where
  ext : Ext w0 w
  ord : w0.heap.size ≤ q.B ∧ q.B < q.bA ∧ q.bA < q.G ∧ q.G < q.bB ∧ q.bB < q.bL ∧ q.bL < w.heap.size
  at' : OneBox w q.bA (.map (some q.B)) 87
  map : MapU w q.B (idx us) q.n
  bel : OneBox w q.bB (.slice (some ⟨q.G, 0, none⟩) q.n q.n) 50
  nats : NatsAt w q.G q.n f
  left : ∃ v, OneBox w q.bL v 50 ∧ w.ownsRow (q.bL + 1) 3 1 v L.length (L.map fun k => Value.int .i64 (k : Nat))

section
variable {w0 : World} {q : KNum} {us : List Uid} {f : Nat → Nat} {L : List Nat} {w w' : World}
theorem KState.later (h : KState w0 q us f L w) (k : Ext w w') : KState w0 q us f L w' := by
  obtain ⟨o1, o2, o3, o4, o5, o6⟩ := h.ord
  obtain ⟨v, h1, h2⟩ := h.left
  have hb : ∀ b, b < w.heap.size → w'.heap[b]? = w.heap[b]? := fun b hb => k.block b hb
  exact ⟨h.ext.trans k, ⟨o1, o2, o3, o4, o5, Nat.lt_of_lt_of_le o6 k.size⟩, h.at'.block (hb _ (by omega)), h.map.ext k, h.bel.block (hb _ (by omega)), (hb _ (by omega)).trans h.nats, v, h1.block (hb _ (by omega)), ownsRow_ext h2 k⟩

/-- a block that isn't one of these is written -/
theorem KState.other {r : Nat} (h : KState w0 q us f L w) (k : GrownBy w w' (some r)) (hr : w0.heap.size ≤ r) (hi : ∃ x y z u, w.heap[r]? = some (.mapIter x y z u)) : KState w0 q us f L w' := by
  obtain ⟨o1, o2, o3, o4, o5, o6⟩ := h.ord
  obtain ⟨v, h1, h2⟩ := h.left
  obtain ⟨x, y, z, u, hi⟩ := hi
  have hne : ∀ (b : Nat) (cs : Array Value) (T : TypeId), w.heap[b]? = some (Obj.cells cs T (0, 0)) → w'.heap[b]? = w.heap[b]? := fun b cs T hb => k.block b (Blk_lt hb) fun e => by
    injection e with e; subst e; rw [hi] at hb; cases hb
  obtain ⟨es, clock, hm⟩ := h.map.isMap
  refine ⟨ext_apart h.ext k fun b e => by injection e with e; omega, ⟨o1, o2, o3, o4, o5, Nat.lt_of_lt_of_le o6 k.size⟩, h.at'.block (hne _ _ _ h.at'), h.map.block (k.block _ h.map.lt fun e => by injection e with e; rw [e, hi] at hm; cases hm),
    h.bel.block (hne _ _ _ h.bel), (hne _ _ _ h.nats).trans h.nats, v, h1.block (hne _ _ _ h1), ?_⟩
  refine ownsRow_apart h2 k fun b hb e => ?_
  injection e with e
  subst e
  obtain ⟨hx, hv⟩ := h2
  rcases hv with ⟨rfl, _⟩ | ⟨g, cap, cur, rfl, _, hh, _⟩
  · cases hb
  · simp only [Value.ownBlock] at hb
    obtain rfl := Option.some.inj hb
    rw [hi] at hh; cases hh

/-- one count is written -/
theorem KState.count (h : KState w0 q us f L w) {k : Nat} (hk : k < q.n) (x : Nat) : KState w0 q us (fun j => if j = k then x else f j) L (w.setCell ⟨q.G, k, none⟩ (.int .i64 x)) := by
  obtain ⟨o1, o2, o3, o4, o5, o6⟩ := h.ord
  obtain ⟨v, h1, h2⟩ := h.left
  have g := GrownBy.setCell w q.G k (.int .i64 x)
  have hb : ∀ b, b < w.heap.size → b ≠ q.G → (w.setCell ⟨q.G, k, none⟩ (.int .i64 x)).heap[b]? = w.heap[b]? := fun b hb hne => g.block b hb fun e => by injection e with e; exact hne e
  refine ⟨ext_apart h.ext g fun b e => by injection e with e; omega, ⟨o1, o2, o3, o4, o5, Nat.lt_of_lt_of_le o6 g.size⟩, h.at'.block (hb _ (by omega) (by omega)), h.map.block (hb _ (by omega) (by omega)), h.bel.block (hb _ (by omega) (by omega)), h.nats.set hk x, v, h1.block (hb _ (by omega) (by omega)),
    ownsRow_apart h2 g fun b hb e => ?_⟩
  injection e with e
  have := (h2.lt b hb).1
  omega

/-- those that may be taken are written -/
theorem KState.lefts (h : KState w0 q us f L w) {v v' : Value} (hv : OneBox w q.bL v 50) {L' : List Nat} {w1 : World} (g : GrownBy w w1 v.ownBlock) (hown : w.ownsRow (q.bL + 1) 3 1 v L.length (L.map fun k => Value.int .i64 (k : Nat)))
    (h' : w1.ownsRow (q.bL + 1) 3 1 v' L'.length (L'.map fun k => Value.int .i64 (k : Nat))) : KState w0 q us f L' (w1.setCell ⟨q.bL, 0, none⟩ v') := by
  obtain ⟨o1, o2, o3, o4, o5, o6⟩ := h.ord
  have hlt : ∀ b, v.ownBlock = some b → q.bL < b := fun b hb => by have := (hown.lt b hb).1; omega
  have g2 := GrownBy.setCell w1 q.bL 0 v'
  have hb1 : ∀ b, b ≤ q.bL → w1.heap[b]? = w.heap[b]? := fun b hb => g.block b (by omega) fun e => by have := hlt b e.symm; omega
  have hb : ∀ b, b < q.bL → (w1.setCell ⟨q.bL, 0, none⟩ v').heap[b]? = w.heap[b]? := fun b hb => (g2.block b (by have := g.size; omega) fun e => by injection e with e; omega).trans (hb1 b (by omega))
  have hl1 : OneBox w1 q.bL v 50 := hv.block (hb1 _ (Nat.le_refl _))
  refine ⟨ext_apart (ext_apart h.ext g fun b e => by have := hlt b e; omega) g2 fun b e => by injection e with e; omega, ⟨o1, o2, o3, o4, o5, by have := g.size; have := g2.size; omega⟩,
    h.at'.block (hb _ (by omega)), h.map.block (hb _ (by omega)), h.bel.block (hb _ (by omega)), (hb _ (by omega)).trans h.nats, v', hl1.set, ownsRow_apart h' g2 fun b hb e => ?_⟩
  injection e with e
  have := (h'.lt b hb).1
  omega
end

theorem Try.info3 : (Try.prog.info? 3).map (fun i => (i.zero, i.size, i.bytes)) = some (some (.int .i64 0), 1, 8) := by kernel_rfl

set_option maxRecDepth 100000 in
/-- one more is below it -/
theorem inc_ok (w0 : World) (q : KNum) (us : List Uid) (f : Nat → Nat) (L : List Nat) (w : World) (k : Nat) (h : KState w0 q us f L w) (hk : k < q.n) (hf : f k ≤ 4398046511104) :
    Calls Try.prog 73 #[.int .i64 k, .pointer (some ⟨q.bB, 0, none⟩)] w fun e w' => e = .returned (.tuple #[]) ∧ KState w0 q us (fun j => if j = k then f k + 1 else f j) L w' ∧ GrownBy w w' (some q.G) := by
  have c1 := h.bel.cell
  have c2 := h.nats.cell hk
  have c3 := h.nats.free k
  have H := Lib.hid (h.count hk (f k + 1))
  clear h
  go_enter Try.func73, Try.ntmps73
  go_wp2_with fail
  go_end0
  exact ⟨rfl, H.out, GrownBy.setCell _ _ _ _⟩

set_option maxRecDepth 100000 in
/-- one less is below it; nobody: it may be taken -/
theorem dec_ok (w0 : World) (q : KNum) (us : List Uid) (f : Nat → Nat) (L : List Nat) (w : World) (k : Nat) (h : KState w0 q us f L w) (hk : k < q.n) (hf : f k ≤ 4398046511104) (hpos : 1 ≤ f k) (hL : L.length ≤ 1048576) :
    Calls Try.prog 74 #[.int .i64 k, .pointer (some ⟨q.bB, 0, none⟩), .pointer (some ⟨q.bL, 0, none⟩)] w fun e w' => e = .returned (.tuple #[]) ∧ KState w0 q us (fun j => if j = k then f k - 1 else f j) (if f k = 1 then L ++ [k] else L) w' := by
  obtain ⟨i0, hi, hz0, hz1, hz2⟩ := info_parts Try.info3
  have c1 := h.bel.cell
  have c2 := h.nats.cell hk
  have c3 := h.nats.free k
  by_cases h1 : f k = 1
  · have c2' : w.cell? ⟨q.G, k, none⟩ = some (.int .i64 1) := by rw [c2, h1]; rfl
    clear c2
    have H : Hid (KState w0 q us (fun j => if j = k then 0 else f j) L (w.setCell ⟨q.G, k, none⟩ (.int .i64 0))) := Lib.hid (h.count hk 0)
    have d1 := H.out.bel.cell
    have d2 : (w.setCell ⟨q.G, k, none⟩ (.int .i64 0)).cell? ⟨q.G, k, none⟩ = some (.int .i64 0) := by
      have := H.out.nats.cell hk
      rwa [if_pos rfl] at this
    obtain ⟨v, hv, hown⟩ := H.out.left
    have d3 := hv.cell
    have d4 := hv.free
    have HV := Lib.hid hv
    have HO := Lib.hid hown
    have H1 := Lib.hid h1
    have Hq := Lib.hid H.out.ord
    clear h h1 hv hown hf hpos
    go_enter Try.func74, Try.ntmps74
    go_wp2_with (at_builtin; refine wpList_append_at rfl (.tmp 15) (.tmp 17) 50 rfl (q.bL + 1) 3 i0 (.int .i64 0) 1 8 Try.underlying50 hi hz0 hz1 hz2 rfl (by decide) v L.length (L.map fun k => Value.int .i64 (k : Nat)) rfl (ownsRow_ext HO.out ((Ext.refl _).alloc _)) w.heap.size 0 1 1 [.int .i64 k] rfl rfl ?q1 ?q2 ?q3 ?q4 ?q5 ?_)
    case q1 => exact cellsAt_new _ _ (by simp)
    case q2 => simp [Value.oneCell']
    case q3 => rw [maxLen_eq]; omega
    case q4 => omega
    case q5 => have := Hq.out; simp at this ⊢; omega
    intro v' w2 hown' hgrow hblk
    obtain ⟨A', cap', rfl⟩ := own_shape hown'
    have Hfin := Lib.hid (H.out.later ((Ext.refl _).alloc (.cells #[.int .i64 k] 3)) |>.lefts (L' := L ++ [k]) (HV.out.block (heap_alloc_old _ _ (Blk_lt HV.out))) hgrow (ownsRow_ext HO.out ((Ext.refl _).alloc _)) (by simpa using hown'))
    have hb2 : OneBox w2 q.bL v 50 := HV.out.block ((hgrow.block _ (by have := Blk_lt HV.out; simp at this ⊢; omega) fun e => by have := (HO.out.lt _ e.symm).1; omega).trans (heap_alloc_old _ _ (Blk_lt HV.out)))
    have d5 := hb2.free
    have d6 := hb2.cell
    have HB2 := Lib.hid hb2
    clear hown' hgrow hblk hb2
    go_wp2_with fail
    go_end0
    exact ⟨rfl, Hfin.out⟩
  · have H := Lib.hid (h.count hk (f k - 1))
    have e1 : ((f k : Nat) : Int) - 1 = ((f k - 1 : Nat) : Int) := by omega
    rw [← e1] at H
    have d1 := H.out.bel.cell
    have d2 := H.out.nats.cell hk
    rw [if_pos rfl, ← e1] at d2
    have e2 : (((f k : Nat) : Int) - 1 == 0) = false := by simp; omega
    have H1 := Lib.hid h1
    clear h h1 e1 hL
    go_enter Try.func74, Try.ntmps74
    go_wp2_with fail
    go_end0
    exact ⟨rfl, H.out⟩
end Go.Proofs.Ytpkgkabcikmopaa
