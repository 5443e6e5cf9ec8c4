/-
  The library's sort at a row of values that a call has made itself. The conditions: none beyond the contract's own.
-/
import Derived.Shelf.SlSortCmp.NoneTotal
import Derived.Test.YtebfoimbdljbmaaDoorGb
import Derived.Test.YtebfoimbdljbmaaDoorSortPQ
import Derived.Test.YtebfoimbdljbmaaDoorGc
import Derived.Deep.OwnRows
import Derived.Test.YtebfoimbdljbmaaDoorGd
namespace Go.Proofs.YtebfoimbdljbmaaDoor
open Go.RowKit Go.Sort

theorem ord_le_trans {a b d : Val} (h1 : a.ord b ≤ 0) (h2 : b.ord d ≤ 0) : a.ord d ≤ 0 := by
  have hr := (Val.goodAt a).range b
  by_cases h0 : a.ord b = 0
  · rw [← (Val.goodAt a).cong b d h0]; exact h2
  · have := (Val.goodAt a).less b d (by omega) h2; omega

section
variable {S : Nat → Prop} {w : World}
/-- a value, and the cells that stand for it -/
structure Elem (S : Nat → Prop) (w : World) where
  enc : List Value
  v : Val
  lies : Val.At S w v enc
instance : Inhabited (Elem S w) := ⟨⟨zeroCells, .zero, Val.zero_at S w⟩⟩
def Elem.cf (x y : Elem S w) : Int := x.v.ord y.v

theorem Elem.len (x : Elem S w) : x.enc.length = 8 := x.lies.length
theorem Elem.one (x : Elem S w) : ∀ v ∈ x.enc, v.oneCell' = true := x.lies.one

theorem Elem.swo : SWO (ltOf (Elem.cf (S := S) (w := w))) where
  irrefl x := by simp [ltOf, Elem.cf, (Val.goodAt x.v).refl]
  trans x y z h1 h2 := by
    have h1 : x.v.ord y.v < 0 := of_decide_eq_true h1
    have h2 : y.v.ord z.v < 0 := of_decide_eq_true h2
    refine decide_eq_true (?_ : x.v.ord z.v < 0)
    have hr := (Val.goodAt x.v).range y.v
    have := (Val.goodAt x.v).less y.v z.v (by omega) (by omega)
    omega
  ntrans x y z h1 h2 := by
    have h1 : ¬ x.v.ord y.v < 0 := of_decide_eq_false h1
    have h2 : ¬ y.v.ord z.v < 0 := of_decide_eq_false h2
    refine decide_eq_false (?_ : ¬ x.v.ord z.v < 0)
    have t1 := (Val.goodAt x.v).turn y.v
    have t2 := (Val.goodAt y.v).turn z.v
    have t3 := (Val.goodAt x.v).turn z.v
    have := ord_le_trans (a := z.v) (b := y.v) (d := x.v) (by omega) (by omega)
    omega

theorem flat_pairs : ∀ {l : List Val} {xs : List Value}, Flat S w l xs → ∃ d : List (Elem S w), d.map Elem.v = l ∧ d.flatMap Elem.enc = xs
  | [], _, h => ⟨[], rfl, h.symm⟩
  | x :: r, _, ⟨c, ys, e, hv, hr⟩ => by
    obtain ⟨d, h1, h2⟩ := flat_pairs hr
    exact ⟨⟨c, x, hv⟩ :: d, by rw [List.map_cons, h1], by rw [List.flatMap_cons, h2, e]⟩
theorem pairs_flat {w' : World} (k : Alike S w w') : ∀ d : List (Elem S w), Flat S w' (d.map Elem.v) (d.flatMap Elem.enc)
  | [] => rfl
  | x :: r => ⟨x.enc, r.flatMap Elem.enc, by simp, x.lies.alike k, pairs_flat k r⟩

theorem flatMap_get : ∀ (d : List (Elem S w)) (t : Nat), t < d.length * 8 → (d.flatMap Elem.enc)[t]? = some ((d.toArray[t / 8]!).enc[t % 8]!)
  | [], t, h => by simp at h
  | x :: r, t, h => by
    have hx := x.len
    rw [List.flatMap_cons]
    by_cases h8 : t < 8
    · rw [List.getElem?_append_left (by omega), Nat.div_eq_of_lt h8, Nat.mod_eq_of_lt h8]
      rw [List.getElem?_eq_getElem (by omega)]
      simp [hx, h8]
    · rw [List.getElem?_append_right (by omega), hx, flatMap_get r (t - 8) (by simp at h; omega)]
      have e1 : t / 8 = (t - 8) / 8 + 1 := by omega
      have e2 : t % 8 = (t - 8) % 8 := by omega
      rw [e1, e2]
      simp

theorem flatMap_length (d : List (Elem S w)) : (d.flatMap Elem.enc).length = d.length * 8 := by
  induction d with
  | nil => rfl
  | cons x r ih => rw [List.flatMap_cons, List.length_append, ih, x.len]; simp; omega

theorem flatK_toList (d : Array (Elem S w)) : (flatK Elem.enc 8 d).toList = d.toList.flatMap Elem.enc := by
  apply List.ext_getElem?
  intro t
  by_cases h : t < d.size * 8
  · rw [flatMap_get d.toList t (by simpa using h)]
    have := get_flatK (Elem.enc (S := S) (w := w)) 8 d t h
    rw [← this]
    have hs : t < (flatK (Elem.enc (S := S) (w := w)) 8 d).size := by simpa using h
    rw [Array.getElem?_toList, Array.getElem?_eq_getElem hs, getElem!_pos _ t hs]
  · rw [List.getElem?_eq_none (by simp; omega), List.getElem?_eq_none (by rw [flatMap_length]; simp; omega)]
end

theorem Tryd.enterOrder : ∀ args w, (callFunc 35 args).run Tryd.prog w = .ok (.enter 35 args) w := fun _ _ => by kernel_rfl

/-- sorted, in place -/
def SortedTo (base : Nat) (v : Value) (l : List Val) (w : World) (e : Ending) (w' : World) : Prop :=
  e = .returned (.tuple #[]) ∧ ∃ l' xs', l'.Perm l ∧ l'.Pairwise (fun a b => a.ord b ≤ 0) ∧ w'.ownsRow base 28 8 v l'.length xs' ∧ Flat (Made base w' v) w' l' xs' ∧ Below base w w' ∧ w.drawn ≤ w'.drawn

theorem heap_sortWorldK {α : Type} [Inhabited α] (enc : α → List Value) (k : Nat) (w : World) (blk off n : Nat) (d : Array α) (os : Array Obj) (b : Nat) (hb : b < w.heap.size) :
    (sortWorldK enc k w blk off n d os).heap[b]? = if blk = b then (w.heap[b]?).map (onCells (putCells id off (flatK enc k d))) else w.heap[b]? := by
  unfold sortWorldK putRowK putRow mapBlock Sort.ahead grow
  rw [Array.getElem?_append_left (by simpa using hb), Array.getElem?_modify]

set_option maxHeartbeats 400000 in
theorem sortV_ok (base : Nat) (w : World) (v : Value) (l : List Val) (xs : List Value) (hown : w.ownsRow base 28 8 v l.length xs) (hf : Flat (Made base w v) w l xs) (hl : l.length ≤ LIM) :
    Calls Tryd.prog 34 #[v, .func (.func 35) #[] #[]] w (SortedTo base v l w) := by
  obtain ⟨hx, hv⟩ := id hown
  rcases hv with ⟨rfl, hn⟩ | ⟨g, cap, cur, rfl, hg, hh, hnc, hcm, hcur, htake⟩
  · have h := AnyF.slices_SortFunc_none Go.Proofs.Tryd.sortV none 0 (.func (.func 35) #[] #[]) w
    refine (show Calls Tryd.prog 34 _ w _ from h).mono ?_
    rintro e w' ⟨rfl, rfl⟩
    have : l = [] := List.eq_nil_of_length_eq_zero hn
    subst this
    exact ⟨rfl, [], xs, List.Perm.refl _, List.Pairwise.nil, hown, hf, Below.refl _ _, Nat.le_refl _⟩
  · obtain ⟨S, hSd⟩ : ∃ S : Nat → Prop, S = Made base w (.slice (some ⟨g, 0, none⟩) l.length cap) := ⟨_, rfl⟩
    have hSm : ∀ b, S b → base ≤ b ∧ b < w.heap.size ∧ b ≠ g := fun b hb => by rw [hSd] at hb; exact ⟨hb.1, hb.2.1, fun e => hb.2.2 (by rw [e]; rfl)⟩
    have hSn : ∀ (w' : World) b, S b → w.heap.size ≤ w'.heap.size → Made base w' (.slice (some ⟨g, 0, none⟩) l.length cap) b := fun w' b hb hw => by rw [hSd] at hb; exact ⟨hb.1, Nat.lt_of_lt_of_le hb.2.1 hw, hb.2.2⟩
    rw [← hSd] at hf
    clear hSd
    obtain ⟨d, hd1, hd2⟩ := flat_pairs hf
    have hdl : d.length = l.length := by rw [← hd1, List.length_map]
    have hgl := Blk_lt hh
    have hH : HoldsK (Elem.enc (S := S) (w := w)) 8 w g 0 d.toArray := by
      intro j hj
      have hj' : j < d.length * 8 := by simpa using hj
      constructor
      · rw [cell_of_row _ _ _ _ _ _ hh]
        have h1 := flatMap_get d j hj'
        rw [get_flatK _ _ _ _ (by simpa using hj'), hd2, ← htake, List.getElem?_take] at *
        split at h1
        · rw [Nat.zero_add]; simpa using h1
        · cases h1
      · exact frozen_of_row _ _ _ _ _ hh
    have hcmp : CmpLays Tryd.prog 35 #[] (Elem.enc (S := S) (w := w)) 8 Elem.cf g 0 d.toArray.size w := by
      intro m os dk hs x y
      have hal : Alike S w (sortWorldK Elem.enc 8 w g 0 m dk os) := fun b hb => by
        rw [heap_sortWorldK _ _ _ _ _ _ _ _ _ (hSm b hb).2.1, if_neg (Ne.symm (hSm b hb).2.2)]
      refine (order_ok _ x.v y.v _ (sortWorldK Elem.enc 8 w g 0 m dk os) x.enc y.enc (Nat.le_refl _) (fun b hb => Nat.lt_of_lt_of_le (hSm b hb).2.1 (size_sortWorldK_c _ _ _ _ _ _ _ _)) (x.lies.alike hal) (y.lies.alike hal)).mono ?_
      rintro e w' ⟨rfl, hx2⟩
      obtain ⟨p, hp⟩ := regrown_of_below hx2
      exact ⟨rfl, p.d, p.os, hp⟩
    have h := AnyQ.slices_SortFunc Go.Proofs.Tryd.sortV 8 Tryd.agg27 Tryd.size27 Elem.enc Elem.len Elem.one Elem.cf Elem.swo 35 #[] g 0 cap d.toArray w Tryd.enterOrder hcmp hH hgl (by simp [hdl]; rw [LIM_eq] at hl; omega)
    have h' : Calls Tryd.prog 34 #[.slice (some ⟨g, 0, none⟩) d.toArray.size cap, .func (.func 35) #[] #[]] w _ := h
    rw [show d.toArray.size = l.length by simp [hdl]] at h'
    refine h'.mono ?_
    rintro e w' ⟨rfl, d', n, os, ⟨hps, _, hperm⟩, hsort, rfl⟩
    have hds : d'.size = l.length := by rw [hps]; simp [hdl]
    have hperm' : d'.toList.Perm d := by
      have h1 : (d'.extract 0 l.length) = d' := by rw [← hds]; simp
      have h2 : (d.toArray.extract 0 l.length) = d.toArray := by rw [← hdl]; simp
      rw [h1, h2] at hperm
      simpa using hperm
    have hhold := holdsK_sortWorldK Elem.enc 8 w g 0 n d.toArray d' os hgl hH hps
    have hblk : (sortWorldK Elem.enc 8 w g 0 n d' os).heap[g]? = some (.cells (putCells id 0 (flatK Elem.enc 8 d') cur) 28 (0, 0)) := by
      rw [heap_sortWorldK _ _ _ _ _ _ _ _ _ hgl, if_pos rfl, hh]; rfl
    have hsz : (putCells id 0 (flatK Elem.enc 8 d') cur).size = cur.size := by simp [putCells]
    have hother : ∀ b, b < w.heap.size → b ≠ g → (sortWorldK Elem.enc 8 w g 0 n d' os).heap[b]? = w.heap[b]? := fun b hb hne => by
      rw [heap_sortWorldK _ _ _ _ _ _ _ _ _ hb, if_neg (Ne.symm hne)]
    have hal : Alike S w (sortWorldK Elem.enc 8 w g 0 n d' os) := fun b hb => hother b (hSm b hb).2.1 (hSm b hb).2.2
    refine ⟨rfl, d'.toList.map Elem.v, d'.toList.flatMap Elem.enc, ?_, ?_, ?_, ?_, ?_, ?_⟩
    · rw [← hd1]; exact hperm'.map _
    · rw [List.pairwise_map]
      refine List.pairwise_iff_getElem.2 fun i j hi hj hij => ?_
      have h1 := hsort i j (Nat.zero_le _) hij (by simpa [hds] using hj)
      have hi' : i < d'.size := by simpa using hi
      have hj' : j < d'.size := by simpa using hj
      rw [getElem!_pos d' i hi', getElem!_pos d' j hj'] at h1
      have h1 : ¬ d'[j].v.ord d'[i].v < 0 := of_decide_eq_false h1
      have h2 := (Val.goodAt (d'[i].v)).turn d'[j].v
      simp only [Array.getElem_toList]
      omega
    · refine ⟨by rw [flatMap_length]; simp, .inr ⟨g, cap, _, by simp [hds], hg, hblk, by simpa [hds] using hnc, hcm, by rw [hsz, hcur], ?_⟩⟩
      apply List.ext_getElem?
      intro t
      rw [List.getElem?_take]
      by_cases ht : t < d'.size * 8
      · rw [if_pos (by simpa using ht)]
        have h1 := (hhold t (by simpa using ht)).1
        rw [cell_of_row _ _ _ _ _ _ hblk, Nat.zero_add] at h1
        rw [← flatK_toList, Array.getElem?_toList, h1]
        have hs : t < (flatK (Elem.enc (S := S) (w := w)) 8 d').size := by simpa using ht
        rw [Array.getElem?_toList, Array.getElem?_eq_getElem hs, getElem!_pos _ t hs]
        rfl
      · rw [if_neg (by simpa using ht), List.getElem?_eq_none (by rw [flatMap_length]; simp; omega)]
    · exact (pairs_flat hal d'.toList).mono fun b hb => hSn _ b hb (size_sortWorldK_c _ _ _ _ _ _ _ _)
    · exact ⟨rfl, rfl, rfl, size_sortWorldK_c _ _ _ _ _ _ _ _, fun b hb => hother b (by omega) (by omega)⟩
    · simp [sortWorldK, putRowK, putRow, mapBlock, Sort.ahead, grow]
end Go.Proofs.YtebfoimbdljbmaaDoor

/-
  The library's sort at a row of things of one kind that a call has made itself. The conditions: none beyond the contract's own.
-/
namespace Go.Proofs.YtebfoimbdljbmaaDoor
open Go.RowKit Go.Sort

section
variable {α : Type} {R : Rep α} {S : Nat → Prop} {w : World}
/-- a thing, and the cells that stand for it -/
structure ElemG (R : Rep α) (S : Nat → Prop) (w : World) where
  enc : List Value
  v : α
  lies : R.At S w v enc
theorem ElemG.len (x : ElemG R S w) : x.enc.length = R.size := R.len x.lies
theorem ElemG.one (x : ElemG R S w) : ∀ v ∈ x.enc, v.oneCell' = true := R.one x.lies

end

end Go.Proofs.YtebfoimbdljbmaaDoor

/-
  The state of the taking away in memory: a map, counts, and those that may be taken; what its closures do. The conditions: each contract's own.
-/
namespace Go.Proofs.YtebfoimbdljbmaaDoor
open Go.RowKit

/-- one cell in a block -/
def OneBox (w : World) (b : Nat) (v : Value) (T : TypeId) : Prop := w.heap[b]? = some (.cells #[v] T (0, 0))
theorem OneBox.cell {w : World} {b : Nat} {v : Value} {T : TypeId} (h : OneBox w b v T) : w.cell? ⟨b, 0, none⟩ = some v := by rw [cell_of_row _ _ _ _ _ _ h]; rfl
theorem OneBox.free {w : World} {b : Nat} {v : Value} {T : TypeId} (h : OneBox w b v T) : w.frozen? ⟨b, 0, none⟩ = false := frozen_of_row _ _ _ _ _ h
theorem OneBox.new (w : World) (v : Value) (T : TypeId) : OneBox (w.alloc (.cells #[v] T)) w.heap.size v T := heap_alloc_new w _
theorem OneBox.block {w w' : World} {b : Nat} {v : Value} {T : TypeId} (h : OneBox w b v T) (k : w'.heap[b]? = w.heap[b]?) : OneBox w' b v T := k.trans h
theorem OneBox.set {w : World} {b : Nat} {u v : Value} {T : TypeId} (h : OneBox w b u T) : OneBox (w.setCell ⟨b, 0, none⟩ v) b v T := by
  have := heap_setCell_at h 0 v
  exact this

/-- so many numbers in a block -/
def NatsAt (w : World) (g n : Nat) (f : Nat → Nat) : Prop := w.heap[g]? = some (.cells ((List.range n).map fun k => Value.int .i64 (f k)).toArray 3 (0, 0))
theorem NatsAt.cell {w : World} {g n : Nat} {f : Nat → Nat} (h : NatsAt w g n f) {k : Nat} (hk : k < n) : w.cell? ⟨g, k, none⟩ = some (.int .i64 (f k)) := by
  rw [cell_of_row _ _ _ _ _ _ h]; simp [hk]
theorem NatsAt.free {w : World} {g n : Nat} {f : Nat → Nat} (h : NatsAt w g n f) (k : Nat) : w.frozen? ⟨g, k, none⟩ = false := frozen_of_row _ _ _ _ _ h
theorem NatsAt.congr {w : World} {g n : Nat} {f f' : Nat → Nat} (h : NatsAt w g n f) (he : ∀ k, k < n → f k = f' k) : NatsAt w g n f' := by
  unfold NatsAt at *
  rw [h]
  have : (List.range n).map (fun k => Value.int .i64 (f k)) = (List.range n).map (fun k => Value.int .i64 (f' k)) := List.map_congr_left fun k hk => by rw [he k (List.mem_range.1 hk)]
  rw [this]
theorem NatsAt.set {w : World} {g n : Nat} {f : Nat → Nat} (h : NatsAt w g n f) {k : Nat} (hk : k < n) (x : Nat) : NatsAt (w.setCell ⟨g, k, none⟩ (.int .i64 x)) g n fun j => if j = k then x else f j := by
  have h1 := heap_setCell_at h k (.int .i64 x)
  unfold NatsAt
  rw [h1]
  congr 2
  apply Array.ext'
  simp only [Array.toList_setIfInBounds]
  apply List.ext_getElem?
  intro j
  by_cases hj : j < n
  · by_cases he : j = k
    · subst he
      simp [hj]
    · rw [List.getElem?_set_ne (Ne.symm he)]
      simp [hj, he]
  · rw [List.getElem?_eq_none (by simp; omega), List.getElem?_eq_none (by simp; omega)]
/-- the numbers of the blocks -/
structure KNum where
  bA : Nat
  B : Nat
  bB : Nat
  G : Nat
  bL : Nat
  n : Nat

/-- the state: a map from names to numbers, how many are below each, those that may be taken -/
structure KState (w0 : World) (q : KNum) (us : List Uid) (f : Nat → Nat) (L : List Nat) (w : World) : Prop where
  ext : Ext w0 w
  ord : w0.heap.size ≤ q.B ∧ q.B < q.bA ∧ q.bA < q.G ∧ q.G < q.bB ∧ q.bB < q.bL ∧ q.bL < w.heap.size
  at' : OneBox w q.bA (.map (some q.B)) 67
  map : MapU w q.B (idx us) q.n
  bel : OneBox w q.bB (.slice (some ⟨q.G, 0, none⟩) q.n q.n) 36
  nats : NatsAt w q.G q.n f
  left : ∃ v, OneBox w q.bL v 36 ∧ w.ownsRow (q.bL + 1) 3 1 v L.length (L.map fun k => Value.int .i64 (k : Nat))

section
variable {w0 : World} {q : KNum} {us : List Uid} {f : Nat → Nat} {L : List Nat} {w w' : World}
theorem KState.later (h : KState w0 q us f L w) (k : Ext w w') : KState w0 q us f L w' := by
  obtain ⟨o1, o2, o3, o4, o5, o6⟩ := h.ord
  obtain ⟨v, h1, h2⟩ := h.left
  have hb : ∀ b, b < w.heap.size → w'.heap[b]? = w.heap[b]? := fun b hb => k.block b hb
  exact ⟨h.ext.trans k, ⟨o1, o2, o3, o4, o5, Nat.lt_of_lt_of_le o6 k.size⟩, h.at'.block (hb _ (by omega)), h.map.ext k, h.bel.block (hb _ (by omega)), (hb _ (by omega)).trans h.nats, v, h1.block (hb _ (by omega)), ownsRow_ext h2 k⟩

/-- a block that isn't one of these is written -/
theorem KState.other {r : Nat} (h : KState w0 q us f L w) (k : GrownBy w w' (some r)) (hr : w0.heap.size ≤ r) (hi : ∃ x y z u, w.heap[r]? = some (.mapIter x y z u)) : KState w0 q us f L w' := by
  obtain ⟨o1, o2, o3, o4, o5, o6⟩ := h.ord
  obtain ⟨v, h1, h2⟩ := h.left
  obtain ⟨x, y, z, u, hi⟩ := hi
  have hne : ∀ (b : Nat) (cs : Array Value) (T : TypeId), w.heap[b]? = some (Obj.cells cs T (0, 0)) → w'.heap[b]? = w.heap[b]? := fun b cs T hb => k.block b (Blk_lt hb) fun e => by
    injection e with e; subst e; rw [hi] at hb; cases hb
  obtain ⟨es, clock, hm⟩ := h.map.isMap
  refine ⟨ext_apart h.ext k fun b e => by injection e with e; omega, ⟨o1, o2, o3, o4, o5, Nat.lt_of_lt_of_le o6 k.size⟩, h.at'.block (hne _ _ _ h.at'), h.map.block (k.block _ h.map.lt fun e => by injection e with e; rw [e, hi] at hm; cases hm),
    h.bel.block (hne _ _ _ h.bel), (hne _ _ _ h.nats).trans h.nats, v, h1.block (hne _ _ _ h1), ?_⟩
  refine ownsRow_apart h2 k fun b hb e => ?_
  injection e with e
  subst e
  obtain ⟨hx, hv⟩ := h2
  rcases hv with ⟨rfl, _⟩ | ⟨g, cap, cur, rfl, _, hh, _⟩
  · cases hb
  · simp only [Value.ownBlock] at hb
    obtain rfl := Option.some.inj hb
    rw [hi] at hh; cases hh

/-- one count is written -/
theorem KState.count (h : KState w0 q us f L w) {k : Nat} (hk : k < q.n) (x : Nat) : KState w0 q us (fun j => if j = k then x else f j) L (w.setCell ⟨q.G, k, none⟩ (.int .i64 x)) := by
  obtain ⟨o1, o2, o3, o4, o5, o6⟩ := h.ord
  obtain ⟨v, h1, h2⟩ := h.left
  have g := GrownBy.setCell w q.G k (.int .i64 x)
  have hb : ∀ b, b < w.heap.size → b ≠ q.G → (w.setCell ⟨q.G, k, none⟩ (.int .i64 x)).heap[b]? = w.heap[b]? := fun b hb hne => g.block b hb fun e => by injection e with e; exact hne e
  refine ⟨ext_apart h.ext g fun b e => by injection e with e; omega, ⟨o1, o2, o3, o4, o5, Nat.lt_of_lt_of_le o6 g.size⟩, h.at'.block (hb _ (by omega) (by omega)), h.map.block (hb _ (by omega) (by omega)), h.bel.block (hb _ (by omega) (by omega)), h.nats.set hk x, v, h1.block (hb _ (by omega) (by omega)),
    ownsRow_apart h2 g fun b hb e => ?_⟩
  injection e with e
  have := (h2.lt b hb).1
  omega

end

end Go.Proofs.YtebfoimbdljbmaaDoor

/-
  What the program's Round comes to: whether some are above themselves. The conditions: the entities lie in memory as they should, no name is there twice.
-/
namespace Go.Proofs.YtebfoimbdljbmaaDoor
open Go.RowKit

/-- the names that are still to come, by number -/
def skipL (us : List Uid) (left : Uid → Bool) (i : Nat) : Bool := match us[i]? with
  | some u => left u
  | none => true
theorem RangeU.apart {w w' : World} {b r : Nat} {m : Uid → Option Nat} {left : Uid → Bool} {cnt G : Nat} (h : RangeU w b r m left cnt) (k : GrownBy w w' (some G)) {cs : Array Value} {T : TypeId} (hG : w.heap[G]? = some (.cells cs T (0, 0))) : RangeU w' b r m left cnt := by
  obtain ⟨x, y, z, hi⟩ := h.isIter
  have hb : ∃ es clock, w.heap[b]? = some (.map es clock) := by
    obtain ⟨D, n, lf, ⟨es, clock, _, _, _, h1, _⟩, _⟩ := h
    exact ⟨es, clock, h1⟩
  obtain ⟨es, clock, hb⟩ := hb
  exact h.block (k.block _ h.lt.1 fun e => by injection e with e; rw [e, hG] at hb; cases hb) (k.block _ h.lt.2 fun e => by injection e with e; rw [e, hG] at hi; cases hi)

theorem RangeU.own {w w' : World} {b r : Nat} {m : Uid → Option Nat} {left : Uid → Bool} {cnt base n size : Nat} {e : TypeId} {v : Value} {xs : List Value} (h : RangeU w b r m left cnt) (k : GrownBy w w' v.ownBlock) (hown : w.ownsRow base e size v n xs) : RangeU w' b r m left cnt := by
  obtain ⟨hx, hv⟩ := hown
  rcases hv with ⟨rfl, _⟩ | ⟨g, cap, cur, rfl, _, hh, _⟩
  · exact h.block (k.block _ h.lt.1 fun e => by cases e) (k.block _ h.lt.2 fun e => by cases e)
  · exact h.apart k hh
/-- the first pass -/
def Pass1 (w0 : World) (q : KNum) (l : List Ent) (r : Nat) (left : Uid → Bool) (cnt : Nat) (rest : List Nat) (w : World) : Prop :=
  ∃ f, KState w0 q (l.map Ent.uid) f [] w ∧ RangeU w q.B r (idx (l.map Ent.uid)) left cnt ∧ ∀ k, k < l.length → f k + rest.count k = cntOut (parN l) (skipL (l.map Ent.uid) left) k l.length

theorem Pass1.later {w0 : World} {q : KNum} {l : List Ent} {r : Nat} {left : Uid → Bool} {cnt : Nat} {rest : List Nat} {w w' : World} (h : Pass1 w0 q l r left cnt rest w) (k : Ext w w') : Pass1 w0 q l r left cnt rest w' := by
  obtain ⟨f, h1, h2, h3⟩ := h
  exact ⟨f, h1.later k, h2.ext k, h3⟩
/-- the third pass: R is taken away, parents are still to be told -/
def Pass3 (w0 : World) (q : KNum) (l : List Ent) (R : List Nat) (rest : List Nat) (w : World) : Prop :=
  rest.length ≤ 1048576 ∧ ∃ f L, KState w0 q (l.map Ent.uid) f L w ∧ Mid3 (parN l) l.length R L rest f
theorem Pass3.later {w0 : World} {q : KNum} {l : List Ent} {R rest : List Nat} {w w' : World} (h : Pass3 w0 q l R rest w) (k : Ext w w') : Pass3 w0 q l R rest w' := by
  obtain ⟨h0, f, L, h1, h2⟩ := h
  exact ⟨h0, f, L, h1.later k, h2⟩
end Go.Proofs.YtebfoimbdljbmaaDoor

/-
  The library's sort at a row of named values that a call has made itself. The conditions: none beyond the contract's own.
-/
namespace Go.Proofs.YtebfoimbdljbmaaDoor
open Go.RowKit Go.Sort

abbrev Fld := ByteArray × Val
def FldAt (S : Nat → Prop) (w : World) (p : Fld) (cs : List Value) : Prop := ∃ c, cs = .string p.1 :: c ∧ Val.At S w p.2 c
theorem FldAt.length {S : Nat → Prop} {w : World} {p : Fld} {cs : List Value} (h : FldAt S w p cs) : cs.length = 9 := by
  obtain ⟨c, rfl, h⟩ := h
  simp [h.length]
theorem FldAt.one {S : Nat → Prop} {w : World} {p : Fld} {cs : List Value} (h : FldAt S w p cs) : ∀ u ∈ cs, u.oneCell' = true := by
  obtain ⟨c, rfl, h⟩ := h
  intro u hu
  rcases List.mem_cons.1 hu with rfl | hu
  · rfl
  · exact h.one u hu
theorem FldAt.alike {S : Nat → Prop} {w w' : World} {p : Fld} {cs : List Value} (h : FldAt S w p cs) (k : Alike S w w') : FldAt S w' p cs := by
  obtain ⟨c, rfl, h⟩ := h
  exact ⟨c, rfl, h.alike k⟩
theorem FldAt.mono {S S' : Nat → Prop} {w : World} {p : Fld} {cs : List Value} (h : FldAt S w p cs) (k : ∀ b, S b → S' b) : FldAt S' w p cs := by
  obtain ⟨c, rfl, h⟩ := h
  exact ⟨c, rfl, h.mono k⟩

/-- cells that stand for values, one behind the other -/
def FlatF (S : Nat → Prop) (w : World) : List Fld → List Value → Prop
  | [], xs => xs = []
  | v :: r, xs => ∃ cs ys, xs = cs ++ ys ∧ FldAt S w v cs ∧ FlatF S w r ys

theorem FlatF.snoc {S : Nat → Prop} {w : World} {x : Fld} {cs : List Value} (hx : FldAt S w x cs) : ∀ {l : List Fld} {xs : List Value}, FlatF S w l xs → FlatF S w (l ++ [x]) (xs ++ cs)
  | [], xs, h => by
    simp only [FlatF] at h; subst h
    exact ⟨cs, [], by simp, hx, rfl⟩
  | v :: r, xs, h => by
    obtain ⟨c, ys, rfl, hv, hr⟩ := h
    exact ⟨c, ys ++ cs, by simp, hv, FlatF.snoc hx hr⟩
theorem FlatF.alike {S : Nat → Prop} {w w' : World} (k : Alike S w w') : ∀ {l : List Fld} {xs : List Value}, FlatF S w l xs → FlatF S w' l xs
  | [], _, h => h
  | _ :: _, _, ⟨c, ys, e, hv, hr⟩ => ⟨c, ys, e, hv.alike k, FlatF.alike k hr⟩
theorem FlatF.mono {S S' : Nat → Prop} {w : World} (k : ∀ b, S b → S' b) : ∀ {l : List Fld} {xs : List Value}, FlatF S w l xs → FlatF S' w l xs
  | [], _, h => h
  | _ :: _, _, ⟨c, ys, e, hv, hr⟩ => ⟨c, ys, e, hv.mono k, FlatF.mono k hr⟩
theorem FlatF.length {S : Nat → Prop} {w : World} : ∀ {l : List Fld} {xs : List Value}, FlatF S w l xs → xs.length = l.length * 9
  | [], _, h => by simp only [FlatF] at h; subst h; rfl
  | _ :: r, _, ⟨c, ys, e, hv, hr⟩ => by
    subst e
    have := hv.length
    have := FlatF.length hr
    simp; omega
theorem FlatF.get {S : Nat → Prop} {w : World} : ∀ {l : List Fld} {xs : List Value} {i : Nat} {x : Fld}, FlatF S w l xs → l[i]? = some x → ∃ cs, cs.length = 9 ∧ FldAt S w x cs ∧ ∀ j v, cs[j]? = some v → xs[i * 9 + j]? = some v
  | [], _, _, _, _, h => by simp at h
  | v :: r, _, 0, x, ⟨c, ys, e, hv, hr⟩, h => by
    simp at h; subst h; subst e
    refine ⟨c, hv.length, hv, fun j u hj => ?_⟩
    rw [List.getElem?_append_left (by simpa using (List.getElem?_eq_some_iff.1 hj).1)]
    simpa using hj
  | v :: r, _, i + 1, x, ⟨c, ys, e, hv, hr⟩, h => by
    subst e
    obtain ⟨cs, h1, h2, h3⟩ := FlatF.get hr (i := i) (x := x) (by simpa using h)
    refine ⟨cs, h1, h2, fun j u hj => ?_⟩
    have := hv.length
    rw [List.getElem?_append_right (by omega), show (i + 1) * 9 + j - c.length = i * 9 + j from by omega]
    exact h3 j u hj

theorem Tryd.agg124 : ∀ w, (isAgg 111).run Tryd.prog w = .ok true w := fun _ => by kernel_rfl
theorem Tryd.size124 : ∀ w, (Go.sizeOf 111).run Tryd.prog w = .ok 9 w := fun _ => by kernel_rfl

set_option maxRecDepth 100000 in
theorem name_ok (p q : Fld) (S : Nat → Prop) (w : World) (cp cq : List Value) (hp : FldAt S w p cp) (hq : FldAt S w q cq) :
    Calls Tryd.prog 60 #[.agg cp.toArray, .agg cq.toArray] w fun e w' => e = .returned (.int .i64 (cmpN p q)) ∧ Ext w w' := by
  obtain ⟨c1, rfl, h1⟩ := hp
  obtain ⟨c2, rfl, h2⟩ := hq
  obtain ⟨k1, b1, n1, t1, ut1, ui1, A1, l1, c1, A3, l3, c3, rfl⟩ := h1.shape
  obtain ⟨k2, b2, n2, t2, ut2, ui2, A4, l4, c4, A5, l5, c5, rfl⟩ := h2.shape
  unfold cmpN
  go_enter Tryd.func60, Tryd.ntmps60
  go_wp2_with fail
  refine (compare_string p.1 q.1 _).mono ?_
  rintro e w' ⟨rfl, rfl⟩
  go_wp2_with fail
  go_ret
  exact ⟨rfl, ((Ext.refl w).alloc _).alloc _⟩

theorem cmpN_le_trans {a b d : Fld} (h1 : cmpN a b ≤ 0) (h2 : cmpN b d ≤ 0) : cmpN a d ≤ 0 := by
  have hr := (GoodAt.cmpN a).range b
  by_cases h0 : cmpN a b = 0
  · rw [← (GoodAt.cmpN a).cong b d h0]; exact h2
  · have := (GoodAt.cmpN a).less b d (by omega) h2; omega

section
variable {S : Nat → Prop} {w : World}
/-- a value, and the cells that stand for it -/
structure ElemF (S : Nat → Prop) (w : World) where
  enc : List Value
  v : Fld
  lies : FldAt S w v enc
instance : Inhabited (ElemF S w) := ⟨⟨.string ByteArray.empty :: zeroCells, (ByteArray.empty, .zero), ⟨zeroCells, rfl, Val.zero_at S w⟩⟩⟩
def ElemF.cf (x y : ElemF S w) : Int := cmpN x.v y.v

theorem ElemF.len (x : ElemF S w) : x.enc.length = 9 := x.lies.length
theorem ElemF.one (x : ElemF S w) : ∀ v ∈ x.enc, v.oneCell' = true := x.lies.one

theorem ElemF.swo : SWO (ltOf (ElemF.cf (S := S) (w := w))) where
  irrefl x := by simp [ltOf, ElemF.cf, (GoodAt.cmpN x.v).refl]
  trans x y z h1 h2 := by
    have h1 : cmpN x.v y.v < 0 := of_decide_eq_true h1
    have h2 : cmpN y.v z.v < 0 := of_decide_eq_true h2
    refine decide_eq_true (?_ : cmpN x.v z.v < 0)
    have hr := (GoodAt.cmpN x.v).range y.v
    have := (GoodAt.cmpN x.v).less y.v z.v (by omega) (by omega)
    omega
  ntrans x y z h1 h2 := by
    have h1 : ¬ cmpN x.v y.v < 0 := of_decide_eq_false h1
    have h2 : ¬ cmpN y.v z.v < 0 := of_decide_eq_false h2
    refine decide_eq_false (?_ : ¬ cmpN x.v z.v < 0)
    have t1 := (GoodAt.cmpN x.v).turn y.v
    have t2 := (GoodAt.cmpN y.v).turn z.v
    have t3 := (GoodAt.cmpN x.v).turn z.v
    have := cmpN_le_trans (a := z.v) (b := y.v) (d := x.v) (by omega) (by omega)
    omega

theorem flat_pairsF : ∀ {l : List Fld} {xs : List Value}, FlatF S w l xs → ∃ d : List (ElemF S w), d.map ElemF.v = l ∧ d.flatMap ElemF.enc = xs
  | [], _, h => ⟨[], rfl, h.symm⟩
  | x :: r, _, ⟨c, ys, e, hv, hr⟩ => by
    obtain ⟨d, h1, h2⟩ := flat_pairsF hr
    exact ⟨⟨c, x, hv⟩ :: d, by rw [List.map_cons, h1], by rw [List.flatMap_cons, h2, e]⟩
theorem pairs_flatF {w' : World} (k : Alike S w w') : ∀ d : List (ElemF S w), FlatF S w' (d.map ElemF.v) (d.flatMap ElemF.enc)
  | [] => rfl
  | x :: r => ⟨x.enc, r.flatMap ElemF.enc, by simp, x.lies.alike k, pairs_flatF k r⟩

theorem flatMap_getF : ∀ (d : List (ElemF S w)) (t : Nat), t < d.length * 9 → (d.flatMap ElemF.enc)[t]? = some ((d.toArray[t / 9]!).enc[t % 9]!)
  | [], t, h => by simp at h
  | x :: r, t, h => by
    have hx := x.len
    rw [List.flatMap_cons]
    by_cases h8 : t < 9
    · rw [List.getElem?_append_left (by omega), Nat.div_eq_of_lt h8, Nat.mod_eq_of_lt h8]
      rw [List.getElem?_eq_getElem (by omega)]
      simp [hx, h8]
    · rw [List.getElem?_append_right (by omega), hx, flatMap_getF r (t - 9) (by simp at h; omega)]
      have e1 : t / 9 = (t - 9) / 9 + 1 := by omega
      have e2 : t % 9 = (t - 9) % 9 := by omega
      rw [e1, e2]
      simp

theorem flatMap_lengthF (d : List (ElemF S w)) : (d.flatMap ElemF.enc).length = d.length * 9 := by
  induction d with
  | nil => rfl
  | cons x r ih => rw [List.flatMap_cons, List.length_append, ih, x.len]; simp; omega

theorem flatK_toListF (d : Array (ElemF S w)) : (flatK ElemF.enc 9 d).toList = d.toList.flatMap ElemF.enc := by
  apply List.ext_getElem?
  intro t
  by_cases h : t < d.size * 9
  · rw [flatMap_getF d.toList t (by simpa using h)]
    have := get_flatK (ElemF.enc (S := S) (w := w)) 9 d t h
    rw [← this]
    have hs : t < (flatK (ElemF.enc (S := S) (w := w)) 9 d).size := by simpa using h
    rw [Array.getElem?_toList, Array.getElem?_eq_getElem hs, getElem!_pos _ t hs]
  · rw [List.getElem?_eq_none (by simp; omega), List.getElem?_eq_none (by rw [flatMap_lengthF]; simp; omega)]
end

theorem Tryd.enterName : ∀ args w, (callFunc 60 args).run Tryd.prog w = .ok (.enter 60 args) w := fun _ _ => by kernel_rfl

/-- sorted, in place -/
def SortedToF (S : Nat → Prop) (base : Nat) (v : Value) (l : List Fld) (w : World) (e : Ending) (w' : World) : Prop :=
  e = .returned (.tuple #[]) ∧ ∃ l' xs', l'.Perm l ∧ l'.Pairwise (fun a b => cmpN a b ≤ 0) ∧ w'.ownsRow base 111 9 v l'.length xs' ∧ FlatF S w' l' xs' ∧ Below base w w' ∧ w.drawn ≤ w'.drawn

set_option maxHeartbeats 400000 in
theorem sortF_ok (S : Nat → Prop) (base : Nat) (w : World) (v : Value) (l : List Fld) (xs : List Value) (hS : ∀ b, S b → b < w.heap.size ∧ v.ownBlock ≠ some b) (hown : w.ownsRow base 111 9 v l.length xs) (hf : FlatF S w l xs) (hl : l.length ≤ LIM) :
    Calls Tryd.prog 59 #[v, .func (.func 60) #[] #[]] w (SortedToF S base v l w) := by
  obtain ⟨hx, hv⟩ := id hown
  rcases hv with ⟨rfl, hn⟩ | ⟨g, cap, cur, rfl, hg, hh, hnc, hcm, hcur, htake⟩
  · have h := AnyF.slices_SortFunc_none Go.Proofs.Tryd.sortF none 0 (.func (.func 60) #[] #[]) w
    refine (show Calls Tryd.prog 59 _ w _ from h).mono ?_
    rintro e w' ⟨rfl, rfl⟩
    have : l = [] := List.eq_nil_of_length_eq_zero hn
    subst this
    exact ⟨rfl, [], xs, List.Perm.refl _, List.Pairwise.nil, hown, hf, Below.refl _ _, Nat.le_refl _⟩
  · have hSm : ∀ b, S b → b < w.heap.size ∧ b ≠ g := fun b hb => ⟨(hS b hb).1, fun e => (hS b hb).2 (by rw [e]; rfl)⟩
    obtain ⟨d, hd1, hd2⟩ := flat_pairsF hf
    have hdl : d.length = l.length := by rw [← hd1, List.length_map]
    have hgl := Blk_lt hh
    have hH : HoldsK (ElemF.enc (S := S) (w := w)) 9 w g 0 d.toArray := by
      intro j hj
      have hj' : j < d.length * 9 := by simpa using hj
      constructor
      · rw [cell_of_row _ _ _ _ _ _ hh]
        have h1 := flatMap_getF d j hj'
        rw [get_flatK _ _ _ _ (by simpa using hj'), hd2, ← htake, List.getElem?_take] at *
        split at h1
        · rw [Nat.zero_add]; simpa using h1
        · cases h1
      · exact frozen_of_row _ _ _ _ _ hh
    have hcmp : CmpLays Tryd.prog 60 #[] (ElemF.enc (S := S) (w := w)) 9 ElemF.cf g 0 d.toArray.size w := by
      intro m os dk hs x y
      have hal : Alike S w (sortWorldK ElemF.enc 9 w g 0 m dk os) := fun b hb => by
        rw [heap_sortWorldK _ _ _ _ _ _ _ _ _ (hSm b hb).1, if_neg (Ne.symm (hSm b hb).2)]
      refine (name_ok x.v y.v S (sortWorldK ElemF.enc 9 w g 0 m dk os) x.enc y.enc (x.lies.alike hal) (y.lies.alike hal)).mono ?_
      rintro e w' ⟨rfl, hx2⟩
      obtain ⟨p, hp⟩ := regrown_of_below hx2
      exact ⟨rfl, p.d, p.os, hp⟩
    have h := AnyQ.slices_SortFunc Go.Proofs.Tryd.sortF 9 Tryd.agg124 Tryd.size124 ElemF.enc ElemF.len ElemF.one ElemF.cf ElemF.swo 60 #[] g 0 cap d.toArray w Tryd.enterName hcmp hH hgl (by simp [hdl]; rw [LIM_eq] at hl; omega)
    have h' : Calls Tryd.prog 59 #[.slice (some ⟨g, 0, none⟩) d.toArray.size cap, .func (.func 60) #[] #[]] w _ := h
    rw [show d.toArray.size = l.length by simp [hdl]] at h'
    refine h'.mono ?_
    rintro e w' ⟨rfl, d', n, os, ⟨hps, _, hperm⟩, hsort, rfl⟩
    have hds : d'.size = l.length := by rw [hps]; simp [hdl]
    have hperm' : d'.toList.Perm d := by
      have h1 : (d'.extract 0 l.length) = d' := by rw [← hds]; simp
      have h2 : (d.toArray.extract 0 l.length) = d.toArray := by rw [← hdl]; simp
      rw [h1, h2] at hperm
      simpa using hperm
    have hhold := holdsK_sortWorldK ElemF.enc 9 w g 0 n d.toArray d' os hgl hH hps
    have hblk : (sortWorldK ElemF.enc 9 w g 0 n d' os).heap[g]? = some (.cells (putCells id 0 (flatK ElemF.enc 9 d') cur) 111 (0, 0)) := by
      rw [heap_sortWorldK _ _ _ _ _ _ _ _ _ hgl, if_pos rfl, hh]; rfl
    have hsz : (putCells id 0 (flatK ElemF.enc 9 d') cur).size = cur.size := by simp [putCells]
    have hother : ∀ b, b < w.heap.size → b ≠ g → (sortWorldK ElemF.enc 9 w g 0 n d' os).heap[b]? = w.heap[b]? := fun b hb hne => by
      rw [heap_sortWorldK _ _ _ _ _ _ _ _ _ hb, if_neg (Ne.symm hne)]
    have hal : Alike S w (sortWorldK ElemF.enc 9 w g 0 n d' os) := fun b hb => hother b (hSm b hb).1 (hSm b hb).2
    refine ⟨rfl, d'.toList.map ElemF.v, d'.toList.flatMap ElemF.enc, ?_, ?_, ?_, ?_, ?_, ?_⟩
    · rw [← hd1]; exact hperm'.map _
    · rw [List.pairwise_map]
      refine List.pairwise_iff_getElem.2 fun i j hi hj hij => ?_
      have h1 := hsort i j (Nat.zero_le _) hij (by simpa [hds] using hj)
      have hi' : i < d'.size := by simpa using hi
      have hj' : j < d'.size := by simpa using hj
      rw [getElem!_pos d' i hi', getElem!_pos d' j hj'] at h1
      have h1 : ¬ cmpN d'[j].v d'[i].v < 0 := of_decide_eq_false h1
      have h2 := (GoodAt.cmpN (d'[i].v)).turn d'[j].v
      simp only [Array.getElem_toList]
      omega
    · refine ⟨by rw [flatMap_lengthF]; simp, .inr ⟨g, cap, _, by simp [hds], hg, hblk, by simpa [hds] using hnc, hcm, by rw [hsz, hcur], ?_⟩⟩
      apply List.ext_getElem?
      intro t
      rw [List.getElem?_take]
      by_cases ht : t < d'.size * 9
      · rw [if_pos (by simpa using ht)]
        have h1 := (hhold t (by simpa using ht)).1
        rw [cell_of_row _ _ _ _ _ _ hblk, Nat.zero_add] at h1
        rw [← flatK_toListF, Array.getElem?_toList, h1]
        have hs : t < (flatK (ElemF.enc (S := S) (w := w)) 9 d').size := by simpa using ht
        rw [Array.getElem?_toList, Array.getElem?_eq_getElem hs, getElem!_pos _ t hs]
        rfl
      · rw [if_neg (by simpa using ht), List.getElem?_eq_none (by rw [flatMap_lengthF]; simp; omega)]
    · exact pairs_flatF hal d'.toList
    · exact ⟨rfl, rfl, rfl, size_sortWorldK_c _ _ _ _ _ _ _ _, fun b hb => hother b (by omega) (by omega)⟩
    · simp [sortWorldK, putRowK, putRow, mapBlock, Sort.ahead, grow]
end Go.Proofs.YtebfoimbdljbmaaDoor

/-
  What the program's record of names and items comes to. The conditions: the names and the items lie in blocks of S, as many names as items.
-/
namespace Go.Proofs.YtebfoimbdljbmaaDoor
open Go.RowKit

/-- a value whose memory lies in S or is new, and an error -/
def ValErrIn (S : Nat → Prop) (x : Val) (er : Int) (w : World) (e : Ending) (w' : World) : Prop := ∃ cs : List Value, e = .returned (.tuple #[.agg cs.toArray, .int .i64 er]) ∧ Val.At (fun b => S b ∨ Fresh w.heap.size w' b) w' x cs ∧ Ext w w'

def zeroField : List Value := .string ByteArray.empty :: zeroCells
theorem Tryd.info124 : (Tryd.prog.info? 111).map (fun i => (i.zero, i.size, i.bytes)) = some (some (.agg zeroField.toArray), 9, 136) := by kernel_rfl
theorem Tryd.underlyingFs : Tryd.prog.underlying 109 = some (.slice 111) := by kernel_rfl

/-- one field more behind a row of the call's own -/
theorem field_step {base : Nat} {S : Nat → Prop} {wr W2 w2 : World} {e : TypeId} {u : Value} {n : Nat} {ys : List Fld} {xs cs : List Value} {y : Fld} (hown : wr.ownsRow base e 9 u n xs) (hf : FlatF S wr ys xs)
    (hS : ∀ b, S b → b < base ∧ b < wr.heap.size) (h1 : Ext wr W2) (hy : FldAt S wr y cs) (hg : GrownBy W2 w2 u.ownBlock) :
    FlatF S w2 (ys ++ [y]) (xs ++ cs) := by
  have hal : Alike S wr w2 := fun b hb => by
    rw [hg.block b (Nat.lt_of_lt_of_le (hS b hb).2 h1.size) (fun e => by have := (hown.lt b e.symm).1; have := (hS b hb).1; omega), h1.block b (hS b hb).2]
  exact FlatF.snoc (hy.alike hal) (hf.alike hal)

/-! ### what rises -/
theorem cmpN_zero {x y : Fld} : cmpN x y = 0 ↔ x.1 = y.1 := ⟨fun h => cmpS_eq h, fun h => by unfold cmpN; rw [h]; exact (GoodAt.cmpS _).refl⟩
theorem fields_rise {l : List Fld} (hpw : l.Pairwise fun a b => cmpN a b ≤ 0) (hne : ∀ i x y, l[i]? = some x → l[i + 1]? = some y → y.1 ≠ x.1) : Strict cmpN l := by
  by_cases h0 : l.length = 0
  · have : l = [] := List.eq_nil_of_length_eq_zero h0
    subst this; exact List.Pairwise.nil
  · have := dedup_apart (c := cmpN) (l := l) (k := l.length - 1) (by omega) fun i x y _ hx hy h => hne i x y hx hy (cmpN_zero.1 h)
    rw [show l.length - 1 + 1 = l.length by omega, List.take_length] at this
    rw [← this]
    exact dedup_strict GoodAt.cmpN hpw
theorem zip_fst {names : List ByteArray} {l : List Val} (hlen : names.length = l.length) : (names.zip l).map (·.1) = names := List.map_fst_zip (by omega)
theorem nodup_at {α β : Type} {f : α → β} {l : List α} (h : (l.map f).Nodup) {i j : Nat} (hi : i < l.length) (hj : j < l.length) (e : f l[i] = f l[j]) : i = j := by
  rw [List.nodup_iff_pairwise_ne, List.pairwise_map, List.pairwise_iff_getElem] at h
  rcases Nat.lt_trichotomy i j with h1 | h1 | h1
  · exact absurd e (h i j hi hj h1)
  · exact h1
  · exact absurd e.symm (h j i hj hi h1)
theorem record_rise {names : List ByteArray} {l : List Val} {l' : List Fld} (hp : l'.Perm (names.zip l)) (hlen : names.length = l.length) (hs : Strict cmpN l') :
    record names l = (.mk 6 false 0 empty empty empty (l'.map (·.2)) (l'.map (·.1)), 0) := by
  have hnd : (l'.map (·.1)).Nodup := by
    rw [List.nodup_iff_pairwise_ne, List.pairwise_map]
    refine hs.imp fun {a b} h e => ?_
    rw [cmpN_zero.2 e] at h; cases h
  have hnd' : names.Nodup := by
    have := (hp.map (·.1)).nodup_iff.1 hnd
    rwa [zip_fst hlen] at this
  have hinj : ∀ x y : Fld, x ∈ l' → y ∈ l' → cmpN x y = 0 → x = y := fun x y hx hy h0 => by
    have h1 := cmpN_zero.1 h0
    obtain ⟨i, hi, rfl⟩ := List.getElem_of_mem hx
    obtain ⟨j, hj, rfl⟩ := List.getElem_of_mem hy
    have := nodup_at hnd hi hj h1
    subst this; rfl
  have hu : sortU cmpN (names.zip l) = l' := by
    refine strict_unique GoodAt.cmpN (sortU_strict GoodAt.cmpN _) hs fun x => ?_
    rw [sortU_mem (P := fun x => x ∈ l') hinj (fun x hx => hp.mem_iff.2 hx)]
    exact hp.mem_iff.symm
  unfold record
  rw [if_pos hnd', hu]
theorem record_twice {names : List ByteArray} {l : List Val} {l' : List Fld} (hp : l'.Perm (names.zip l)) (hlen : names.length = l.length) {i : Nat} {x y : Fld} (hx : l'[i]? = some x) (hy : l'[i + 1]? = some y) (h : y.1 = x.1) :
    record names l = (.zero, 13) := by
  unfold record
  rw [if_neg]
  intro hnd
  have hnd' : (l'.map (·.1)).Nodup := (hp.map (·.1)).nodup_iff.2 (by rw [zip_fst hlen]; exact hnd)
  obtain ⟨hi, rfl⟩ := List.getElem?_eq_some_iff.1 hx
  obtain ⟨hj, rfl⟩ := List.getElem?_eq_some_iff.1 hy
  have := nodup_at hnd' hj hi h
  omega

/-- a record in the making -/
structure Making (S : Nat → Prop) (w2 : World) (O : Nat) (l' : List Fld) (k : Nat) (wr : World) : Prop where
  grown : GrownBy w2 wr (some O)
  rows : ∃ (I N : Value) (xs : List Value), wr.heap[O]? = some (.cells #[.int .i64 6, .bool false, .int .i64 0, .string ByteArray.empty, .string ByteArray.empty, .string ByteArray.empty, I, N] 28 (0, 0)) ∧
    wr.ownsRow w2.heap.size 28 8 I k xs ∧ wr.ownsRow w2.heap.size 9 1 N k ((l'.take k).map fun p => .string p.1) ∧ Flat S wr ((l'.take k).map (·.2)) xs ∧ (∀ b, I.ownBlock = some b → N.ownBlock ≠ some b)

/-- one field more -/
theorem Making.next {S : Nat → Prop} {W2 wr w3 w4 : World} {O k : Nat} {l' : List Fld} {p : Fld} {I N I' N' : Value} {xsI cs : List Value} (h : GrownBy W2 wr (some O)) (hx3 : Ext wr w3)
    (hO3 : w3.heap[O]? = some (.cells #[.int .i64 6, .bool false, .int .i64 0, .string ByteArray.empty, .string ByteArray.empty, .string ByteArray.empty, I, N] 28 (0, 0))) (hOs : O < W2.heap.size) (hinv : TwoInv w3 I N w4)
    (hI : w3.ownsRow W2.heap.size 28 8 I k xsI) (hN : w3.ownsRow W2.heap.size 9 1 N k ((l'.take k).map fun p => .string p.1)) (hf : Flat S wr ((l'.take k).map (·.2)) xsI) (hS : ∀ b, S b → b < W2.heap.size ∧ b ≠ O)
    (h5 : Longer w3 W2.heap.size k 9 1 N ((l'.take k).map fun p => .string p.1) [.string p.1] N' w4) (h11 : Longer w3 W2.heap.size k 28 8 I xsI cs I' w4) (hne : ∀ b, N'.ownBlock = some b → I'.ownBlock ≠ some b) (hp : l'[k]? = some p) (hva : Val.At S wr p.2 cs) :
    Making S W2 O l' (k + 1) ((w4.setCell ⟨O, 7, none⟩ N').setCell ⟨O, 6, none⟩ I') := by
  have hIb : ∀ b, I.ownBlock = some b → W2.heap.size ≤ b := fun b hb => (hI.lt b hb).1
  have hNb : ∀ b, N.ownBlock = some b → W2.heap.size ≤ b := fun b hb => (hN.lt b hb).1
  have hO4 := (hinv.block O (Blk_lt hO3) (fun e => by have := hIb O e; omega) (fun e => by have := hNb O e; omega)).trans hO3
  have hO5 := heap_setCell_at hO4 7 N'
  have hO6 := heap_setCell_at hO5 6 I'
  have g4 : GrownBy w4 ((w4.setCell ⟨O, 7, none⟩ N').setCell ⟨O, 6, none⟩ I') (some O) := (GrownBy.setCell w4 O 7 N').trans (GrownBy.setCell _ O 6 I')
  have g3 : GrownBy W2 w4 (some O) := ⟨⟨hinv.os.trans (hx3.os.trans h.os), hinv.tape.trans (hx3.tape.trans h.tape), hinv.output.trans (hx3.output.trans h.output), Nat.le_trans h.size (Nat.le_trans hx3.size hinv.size), fun b hb hbo => by
    have s1 := h.size
    have s2 := hx3.size
    rw [hinv.block b (by omega) (fun e => by have := hIb b e; omega) (fun e => by have := hNb b e; omega), hx3.block b (by omega), h.block b hb hbo]⟩, Nat.le_trans h.drawn (Nat.le_trans hx3.drawn hinv.drawn)⟩
  have hal : Alike S wr ((w4.setCell ⟨O, 7, none⟩ N').setCell ⟨O, 6, none⟩ I') := fun b hb => by
    have s1 := h.size
    have s2 := hx3.size
    have s3 := hinv.size
    obtain ⟨hb1, hb2⟩ := hS b hb
    rw [g4.block b (by omega) (fun e => by injection e with e; omega), hinv.block b (by omega) (fun e => by have := hIb b e; omega) (fun e => by have := hNb b e; omega), hx3.block b (by omega)]
  refine ⟨g3.trans g4, I', N', xsI ++ cs, hO6, ?_, ?_, ?_, fun b hb hb' => hne b hb' hb⟩
  · exact ownsRow_apart h11.1 g4 fun b hb e => by injection e with e; have := (h11.1.lt b hb).1; omega
  · rw [take_succ_of hp, List.map_append]
    exact ownsRow_apart h5.1 g4 fun b hb e => by injection e with e; have := (h5.1.lt b hb).1; omega
  · rw [take_succ_of hp, List.map_append]
    exact Flat.snoc (hva.alike hal) (hf.alike hal)

/-- the record that has been made -/
theorem Making.fin {S S' : Nat → Prop} {w2 wr : World} {O k : Nat} {l' : List Fld} (h : Making S w2 O l' k wr) (hk : l'.length = k) (hl : k ≤ LIM) (hs : ∀ p ∈ l', p.1.size ≤ maxLen) (h1 : ∀ b, S b → S' b) (h2 : ∀ b, w2.heap.size ≤ b → b < wr.heap.size → S' b) :
    ∃ I N : Value, wr.heap[O]? = some (.cells #[.int .i64 6, .bool false, .int .i64 0, .string ByteArray.empty, .string ByteArray.empty, .string ByteArray.empty, I, N] 28 (0, 0)) ∧
      Val.At S' wr (.mk 6 false 0 empty empty empty (l'.map (·.2)) (l'.map (·.1))) [.int .i64 6, .bool false, .int .i64 0, .string ByteArray.empty, .string ByteArray.empty, .string ByteArray.empty, I, N] := by
  obtain ⟨I, N, xs, hO, hI, hN, hf, _⟩ := h.rows
  refine ⟨I, N, hO, ?_⟩
  rw [List.take_of_length_le (by omega)] at hN hf
  have e2 : (l'.map (·.2)).length = k := by rw [List.length_map, hk]
  have e1 : (l'.map (·.1)).length = k := by rw [List.length_map, hk]
  have hv := own_vals (S' := S') (by rw [e2]; exact hI) hf (by rw [e2]; exact hl) h1 fun b hb => h2 b (hI.lt b hb).1 (hI.lt b hb).2
  have hn := own_strs (S := S') (l := l'.map (·.1)) (by rw [e1, List.map_map]; exact hN) (by rw [e1]; exact hl) (fun s hs' => by
    obtain ⟨p, hp, rfl⟩ := List.mem_map.1 hs'
    exact hs p hp) fun b hb => h2 b (hN.lt b hb).1 (hN.lt b hb).2
  obtain ⟨A, cap, rfl, h3, h4⟩ := hv
  have h0 : empty.size ≤ maxLen := by rw [maxLen_eq]; decide
  unfold Val.At
  exact ⟨A, cap, N, rfl, ⟨⟨by omega, by omega⟩, ⟨by omega, by omega⟩, h0, h0, h0⟩, h3, h4, hn⟩

set_option maxRecDepth 100000 in
set_option maxHeartbeats 1600000 in
theorem record_ok (S Sn : Nat → Prop) (names : List ByteArray) (nv : Value) (l : List Val) (v : Value) (w : World) (hS : ∀ b, S b → b < w.heap.size) (hSn : ∀ b, Sn b → b < w.heap.size) (hn : StrsAt Sn w names nv) (hl : ValsAt S w l v) (hlen : names.length = l.length) (h4 : l.length ≤ 4096) :
    Calls Tryd.prog 37 #[nv, v] w (ValErrIn S (record names l).1 (record names l).2 w) := by
  obtain ⟨A, cap, rfl, ⟨hl0, hl1, hl2⟩, hlr⟩ := hl
  obtain ⟨A', cap', rfl, hn0, hn1, hn2, hn3, hnr⟩ := hn
  rw [LIM_eq] at hl0
  rw [maxLen_eq] at hl2 hn2
  have HS := Lib.hid hS
  have HSn := Lib.hid hSn
  have HL := Lib.hid hlr
  have HN := Lib.hid hnr
  have HN3 := Lib.hid hn3
  obtain ⟨res, hres⟩ : ∃ res, res = record names l := ⟨_, rfl⟩
  rw [← hres]
  have HR0 := Lib.hid hres
  clear hres
  have HE := Lib.hid hlen
  rw [hlen] at hn1 hn0
  clear hS hSn hlr hnr hn3 hn0
  obtain ⟨i0, hi, hz0, hz1, hz2⟩ := info_parts Tryd.info124
  go_enter Tryd.func37, Tryd.ntmps37
  rw [hlen]
  clear hlen
  go_wp2_with fail
  generalize hW0 : w.alloc (.cells #[.int .i64 0, .bool false, .int .i64 0, .string ⟨#[]⟩, .string ⟨#[]⟩, .string ⟨#[]⟩, .slice none 0 0, .slice none 0 0] 28) = W0
  have hw0 : Ext w W0 := by rw [← hW0]; exact (Ext.refl w).alloc _
  have hc0 : W0.heap[w.heap.size]? = some (.cells zeroCells.toArray 28 (0, 0)) := by rw [← hW0]; exact heap_alloc_new _ _
  have hs0 : W0.heap.size = w.heap.size + 1 := by rw [← hW0]; simp
  have HW := Lib.hid hw0
  have HC := Lib.hid hc0
  have HS0 := Lib.hid hs0
  have HSW := Lib.hid (show ∀ b, S b → b < W0.heap.size from fun b hb => Nat.lt_of_lt_of_le (HS.out b hb) hw0.size)
  clear hW0 hw0 hc0 hs0
  go_loopw [6, 14] (fun u i wr => ∃ k : Nat, k ≤ l.length ∧ i = .int .i64 k ∧ Ext W0 wr ∧ Hid (∃ xs, wr.ownsRow W0.heap.size 111 9 u k xs ∧ FlatF S wr ((names.zip l).take k) xs)) (fun _ i _ => l.length - (intOf i).toNat)
  case atStart => exact ⟨0, Nat.zero_le _, rfl, Ext.refl W0, [], World.ownsRow_nil _ _ _ _, rfl⟩
  case round =>
    obtain ⟨k, hk, rfl, hext, Hown⟩ := hrel
    have HX := Lib.hid hext
    clear hext
    by_cases hlt : k < l.length
    · obtain ⟨b, o, rfl, hSb, hrow⟩ := HL.out (by omega)
      obtain ⟨b', o', rfl, hSb', hrow'⟩ := HN.out (by have := HE.out; omega)
      obtain ⟨x, hx⟩ : ∃ x, l[k]? = some x := ⟨_, List.getElem?_eq_getElem hlt⟩
      obtain ⟨nm, hnm⟩ : ∃ x, names[k]? = some x := ⟨_, List.getElem?_eq_getElem (by have := HE.out; omega)⟩
      obtain ⟨cs, hcl, hca, hxa⟩ := hrow.get hx
      have Hca := Lib.hid (hca.alike hSb (Alike.of_ext (HW.out.trans HX.out) HS.out))
      have Hxa := Lib.hid (hxa.alike (Alike.of_ext (HW.out.trans HX.out) HS.out))
      have Hx := Lib.hid hx
      have Hnm := Lib.hid hnm
      have hcn : wr.cell? ⟨b', o' + k, none⟩ = some (.string nm) := (hrow'.alike hSb' (Alike.of_ext (HW.out.trans HX.out) HSn.out)) k _ (by simp [hnm])
      clear hx hxa hca hrow hcl hSb hrow' hSb' hnm
      obtain ⟨k1, b1, n1, t1, ut1, ui1, A1, l1, c1, A2, l2, c2, rfl⟩ := Hxa.out.shape
      obtain ⟨xs, hown, hflat⟩ := Hown.out
      have Ho := Lib.hid hown
      have Hf := Lib.hid hflat
      clear hown hflat Hown
      have hb1 : k + 1 ≤ 1073741824 := by omega
      go_wp2_with (first | refine wpList_load_cells rfl 28 _ rfl b (o + k * 8) rfl Tryd.agg27 Tryd.size27 rfl Hca.out ?_ | (at_builtin; refine wpList_append_at rfl (.tmp 19) (.tmp 26) 109 rfl W0.heap.size 111 i0 (.agg zeroField.toArray) 9 136 Tryd.underlyingFs hi hz0 hz1 hz2 rfl (by decide) _ k xs rfl (ownsRow_ext Ho.out ((Ext.refl wr).alloc _)) wr.heap.size 0 1 1 [.string nm, .int .i64 k1, .bool b1, .int .i64 n1, .string t1, .string ut1, .string ui1, .slice A1 l1 c1, .slice A2 l2 c2] rfl rfl (cellsAt_new _ _ (by simp)) (FldAt.one (S := S) (w := wr) (p := (nm, x)) ⟨_, rfl, Hxa.out⟩) (by rw [maxLen_eq]; omega) (by omega) (HX.out.alloc _).size ?_))
      intro v' w2 hown' hgrow hblk
      have Ho' := Lib.hid hown'
      have Hg := Lib.hid hgrow
      clear hown' hgrow hblk
      go_wp2_with fail
      go_roundw
      case rel =>
        refine ⟨k + 1, by omega, by go_num, ext_grown (HX.out.alloc _) (ownsRow_ext Ho.out ((Ext.refl wr).alloc _)) Hg.out, _, Ho'.out, ?_⟩
        rw [take_succ_of (x := (nm, x)) (List.getElem?_zip_eq_some.2 ⟨Hnm.out, Hx.out⟩)]
        exact field_step Ho.out Hf.out (fun b hb => ⟨HSW.out b hb, Nat.lt_of_lt_of_le (HSW.out b hb) HX.out.size⟩) ((Ext.refl wr).alloc _) ⟨_, rfl, Hxa.out⟩ Hg.out
      case measure => simp [intOf]; omega
    · have hke : k = l.length := by omega
      subst hke
      obtain ⟨xs, hown, hflat⟩ := Hown.out
      obtain ⟨A6, cap6, rfl, hcap6⟩ : ∃ A6 cap6, u6 = .slice A6 l.length cap6 ∧ cap6 ≤ maxLen ∧ l.length ≤ cap6 := by
        rcases hown.2 with ⟨rfl, hn⟩ | ⟨g, cap, cur, rfl, _, _, h1, h2, _⟩
        · exact ⟨none, 0, by rw [hn], by rw [maxLen_eq]; omega, by omega⟩
        · exact ⟨_, _, rfl, h2, h1⟩
      rw [maxLen_eq] at hcap6
      obtain ⟨hc6, hc6'⟩ := hcap6
      have hzl : (names.zip l).length = l.length := by rw [List.length_zip, HE.out]; omega
      rw [List.take_of_length_le (by omega)] at hflat
      have Ho := Lib.hid hown
      have Hf := Lib.hid hflat
      clear hown hflat Hown
      go_wp2_with (go_at_call 59; refine (sortF_ok S W0.heap.size wr _ (names.zip l) xs (fun b hb => ⟨Nat.lt_of_lt_of_le (HSW.out b hb) HX.out.size, fun e => by have := (Ho.out.lt b e).1; have := HSW.out b hb; omega⟩) (by rw [hzl]; exact Ho.out) Hf.out (by rw [hzl, LIM_eq]; omega)).mono ?_)
      rintro e w1 ⟨rfl, l', xs', hperm, hpw, hown', hflat', hbel, hdr⟩
      have hll : l'.length = l.length := by rw [hperm.length_eq, hzl]
      rw [hll] at hown'
      have Ho1 := Lib.hid hown'
      have Hf1 := Lib.hid hflat'
      have HX1 : Hid (Ext W0 w1) := Lib.hid ⟨HX.out.toBelow.trans hbel, Nat.le_trans HX.out.drawn hdr⟩
      have Hp := Lib.hid hperm
      have Hpw := Lib.hid hpw
      have Hll := Lib.hid hll
      clear hown' hflat' hbel hdr hperm hpw hzl hll Ho Hf HX HL HN
      go_wp2_with fail
      go_loopw [34] (fun i wr => ∃ k : Nat, k ≤ l.length ∧ i = .int .i64 k ∧ Hid (Making S (w1.alloc (.cells #[.int .i64 6, .bool false, .int .i64 0, .string ByteArray.empty, .string ByteArray.empty, .string ByteArray.empty, .slice none 0 0, .slice none 0 0] 28)) w1.heap.size l' k wr ∧ ∀ i x y, i + 1 < k → l'[i]? = some x → l'[i + 1]? = some y → y.1 ≠ x.1)) (fun i _ => l.length - (intOf i).toNat)
      case atStart => exact ⟨0, Nat.zero_le _, rfl, ⟨GrownBy.of_ext _ (Ext.refl _), .slice none 0 0, .slice none 0 0, [], heap_alloc_new _ _, World.ownsRow_nil _ _ _ _, by simpa using World.ownsRow_nil _ _ _ _, rfl, fun b hb => by cases hb⟩, fun _ _ _ h => by omega⟩
      case round =>
        obtain ⟨k, hk, rfl, HM⟩ := hrel
        by_cases hlt : k < l.length
        · obtain ⟨p, hp⟩ : ∃ p, l'[k]? = some p := ⟨_, List.getElem?_eq_getElem (by rw [Hll.out]; exact hlt)⟩
          obtain ⟨hm, hne⟩ := HM
          have hrowF := Ho1.out.2
          obtain ⟨cf, hcf, hfat, hfx⟩ := Hf1.out.get hp
          obtain ⟨g6, rfl, hg6, hh6⟩ : ∃ g6, A6 = some ⟨g6, 0, none⟩ ∧ W0.heap.size ≤ g6 ∧ ∃ cur, w1.heap[g6]? = some (.cells cur 111 (0, 0)) ∧ cur.toList.take (l.length * 9) = xs' := by
            rcases hrowF with ⟨_, h⟩ | ⟨g, cap, cur, h, hg, hh, _, _, _, ht⟩
            · omega
            · cases h; exact ⟨g, rfl, hg, cur, hh, ht⟩
          obtain ⟨cur6, hh6, ht6⟩ := hh6
          have hh6' : wr.heap[g6]? = some (.cells cur6 111 (0, 0)) := by
            rw [hm.grown.block _ (by have := Blk_lt hh6; simp; omega) (fun e => by injection e with e; have := Blk_lt hh6; omega), Below.heap_alloc _ _ _ (Blk_lt hh6)]
            exact hh6
          have hal : Alike S w1 wr := fun b hb => by
            have h1 := Nat.lt_of_lt_of_le (HSW.out b hb) HX1.out.size
            rw [hm.grown.block _ (by simp; omega) (fun e => by injection e with e; omega), Below.heap_alloc _ _ _ h1]
          have hcell6 : ∀ (i : Nat) (c : List Value), i < l.length → c.length = 9 → (∀ j v, c[j]? = some v → xs'[i * 9 + j]? = some v) → CellsAt wr g6 (i * 9) c := fun i c hi hcl hcx j v hj => by
            have h1 := hcx j v hj
            rw [← ht6, List.getElem?_take] at h1
            rw [cell_of_row _ _ _ _ _ _ hh6']
            split at h1
            · simpa using h1
            · cases h1
          obtain ⟨cv, rfl, hva⟩ := hfat
          obtain ⟨k1, b1, n1, t1, ut1, ui1, A1, l1, c1, A2, l2, c2, rfl⟩ := hva.shape
          have hcp := hcell6 k _ hlt hcf hfx
          have Hva := Lib.hid (hva.alike hal)
          have Hp1 := Lib.hid hp
          have HM := Lib.hid hm
          have Hne := Lib.hid hne
          have Hcp := Lib.hid hcp
          have Hg6 := Lib.hid (Blk_lt hh6')
          have Hcell := Lib.hid hcell6
          clear hrowF hcf hfx hh6 ht6 hh6' hal hva hcp hp hm hne hcell6 hg6
          go_wp2_with (refine wpList_load_cells rfl 111 _ rfl g6 (k * 9) rfl Tryd.agg124 Tryd.size124 rfl Hcp.out ?_)
          generalize hW1 : wr.alloc (.cells #[.string p.1, .int .i64 k1, .bool b1, .int .i64 n1, .string t1, .string ut1, .string ui1, .slice A1 l1 c1, .slice A2 l2 c2] 111) = W1
          have hx1 : Ext wr W1 := by rw [← hW1]; exact (Ext.refl wr).alloc _
          have hcf : CellsAt W1 wr.heap.size 0 [.string p.1, .int .i64 k1, .bool b1, .int .i64 n1, .string t1, .string ut1, .string ui1, .slice A1 l1 c1, .slice A2 l2 c2] := by rw [← hW1]; exact cellsAt_new _ _ rfl
          have HXW := Lib.hid hx1
          have Hcf := Lib.hid hcf
          have Hlt : Hid (wr.heap.size < W1.heap.size) := Lib.hid (by rw [← hW1]; simp)
          clear hW1 hx1 hcf
          have f0 := cell_regrown (show W1.cell? ⟨wr.heap.size, 0, none⟩ = some (.string p.1) by simpa using Hcf.out 0 _ rfl)
          by_cases hk0 : k = 0
          case' pos =>
            have t0 : decide (0 < k) = false := by simp; omega
            have HN' : Hid (∀ i x y, i + 1 < k + 1 → l'[i]? = some x → l'[i + 1]? = some y → y.1 ≠ x.1) := Lib.hid fun i x y hi => by omega
            clear hk0
            refine region_later (by kernel_rfl) (by kernel_rfl) ?_
            repeat (go_big_quiet_step (fail))
            refine wpQuiet_nil ?_
            intro w3 hw3
            have HX3 := Lib.hid hw3
            clear hw3 f0
            go_wp2_with fail
          case' neg =>
            obtain ⟨q, hq⟩ : ∃ q, l'[k - 1]? = some q := ⟨_, List.getElem?_eq_getElem (by rw [Hll.out]; omega)⟩
            obtain ⟨cq, hcq, ⟨cq', rfl, hqa⟩, hqx⟩ := Hf1.out.get hq
            have f1 := cell_regrown (show W1.cell? ⟨g6, (k - 1) * 9, none⟩ = some (.string q.1) by
              have := Hcell.out (k - 1) _ (by omega) hcq hqx
              exact (World.cell?_of_block (a := ⟨g6, (k - 1) * 9, none⟩) (HXW.out.block _ Hg6.out)).trans (by simpa using this 0 _ rfl))
            have hqn : l'[k - 1]? = some q := hq
            have t0 : decide (0 < k) = true := by simp; omega
            have q1 : IntKind.i64.wrap ((k : Int) - 1) = ((k - 1 : Nat) : Int) := by rw [show (k : Int) - 1 = ((k - 1 : Nat) : Int) by omega]; exact IntWalk.i64_in _ (by omega)
            have q2 : (0 : Int) ≤ ((k - 1 : Nat) : Int) := by omega
            have q3 : ((k - 1 : Nat) : Int) < l.length := by omega
            have q4 : k - 1 < l.length := by omega
            have Hqn := Lib.hid hqn
            clear hq hcq hqa hqx hqn
            have Hk0 := Lib.hid hk0
            clear hk0
            refine region_later (by kernel_rfl) (by kernel_rfl) ?_
            repeat (go_big_quiet_step (fail))
            refine wpQuiet_nil ?_
            intro w3 hw3
            have HX3 := Lib.hid hw3
            clear hw3 f0 f1 q1 q2 q3 q4
            by_cases he : p.1 = q.1
            · have e0 : (p.1.toList == q.1.toList) = true := by rw [he]; simp
              rw [e0]
              clear e0
              have hrec := record_twice Hp.out HE.out Hqn.out (by rw [show k - 1 + 1 = k by have := Hk0.out; omega]; exact Hp1.out) he
              have hextr : Ext w w3 := by
                have h1 : Ext w (w1.alloc (.cells #[.int .i64 6, .bool false, .int .i64 0, .string ByteArray.empty, .string ByteArray.empty, .string ByteArray.empty, .slice none 0 0, .slice none 0 0] 28)) := (HW.out.trans HX1.out).alloc _
                have h2 := (HW.out.trans HX1.out).size
                exact Ext.trans ⟨h1.toBelow.trans ⟨HM.out.grown.os, HM.out.grown.tape, HM.out.grown.output, HM.out.grown.size, fun b hb => HM.out.grown.block b (Nat.lt_of_lt_of_le hb h1.size) (fun e => by injection e with e; omega)⟩, Nat.le_trans h1.drawn HM.out.grown.drawn⟩ (HXW.out.trans HX3.out)
              have hcell : w3.heap[w.heap.size]? = some (.cells zeroCells.toArray 28 (0, 0)) := by
                have h1 := HX1.out.size
                have h2 := HS0.out
                have h3 := HM.out.grown.size
                rw [(HXW.out.trans HX3.out).block _ (by simp at h3; omega), HM.out.grown.block _ (by simp; omega) (fun e => by injection e with e; omega), Below.heap_alloc _ _ _ (by omega), HX1.out.block _ (by omega)]
                exact HC.out
              have HR := Lib.hid hrec
              have HXr := Lib.hid hextr
              have HCl := Lib.hid hcell
              clear he hrec hextr hcell HM Hcp Hcell Hcf HN3 Hp Hpw
              go_wp2_with (refine wpList_store_cells rfl 28 _ _ rfl w.heap.size 0 rfl zeroCells rfl Tryd.size27 rfl 28 zeroCells.toArray HCl.out (by simp [zeroCells]) zero_one ?_)
              rw [HR0.out, HR.out]
              exact bodyPost_ret (v := .tuple #[.agg zeroCells.toArray, .int .i64 13]) (results_cell Tryd.results37 rfl Tryd.agg27 Tryd.size27 rfl (cellsAt_setRow HCl.out (by simp [zeroCells]))) rfl ⟨zeroCells, rfl, Val.zero_at _ _, HXr.out.setRow (Nat.le_refl _) _⟩
            have e0 : (p.1.toList == q.1.toList) = false := by rw [beq_eq_false_iff_ne]; exact fun e => he (toList_inj e)
            rw [e0]
            clear e0
            have HN' : Hid (∀ i x y, i + 1 < k + 1 → l'[i]? = some x → l'[i + 1]? = some y → y.1 ≠ x.1) := Lib.hid fun i x y hi hx hy => by
              by_cases hik : i + 1 < k
              · exact Hne.out i x y hik hx hy
              · have hk1 : i = k - 1 := by omega
                subst hk1
                rw [Hqn.out] at hx
                rw [show k - 1 + 1 = k by have := Hk0.out; omega, Hp1.out] at hy
                cases hx; cases hy; exact he
            clear he
            go_wp2_with fail
          all_goals
            obtain ⟨I, N, xsI, hO, hI0, hN0, hfI, hne2⟩ := HM.out.rows
            obtain ⟨B, hB, hI1, hN1⟩ : ∃ B, B = (w1.alloc (.cells #[.int .i64 6, .bool false, .int .i64 0, .string ByteArray.empty, .string ByteArray.empty, .string ByteArray.empty, .slice none 0 0, .slice none 0 0] 28)).heap.size ∧
              wr.ownsRow B 28 8 I k xsI ∧ wr.ownsRow B 9 1 N k ((l'.take k).map fun p => .string p.1) := ⟨_, rfl, hI0, hN0⟩
            have hx3 : Ext wr w3 := HXW.out.trans HX3.out
            have hO3 := (hx3.block _ (Blk_lt hO)).trans hO
            have hI3 := ownsRow_ext hI1 hx3
            have hN3 := ownsRow_ext hN1 hx3
            have hF3 := Hcf.out.alike (S := fun b => b < W1.heap.size) Hlt.out (Alike.of_ext HX3.out fun _ h => h)
            have hIl : ∀ b, I.ownBlock = some b → b < w3.heap.size := fun b hb => (hI3.lt b hb).2
            have hNl : ∀ b, N.ownBlock = some b → b < w3.heap.size := fun b hb => (hN3.lt b hb).2
            have hIb : ∀ b, I.ownBlock = some b → B ≤ b := fun b hb => (hI3.lt b hb).1
            have hNb : ∀ b, N.ownBlock = some b → B ≤ b := fun b hb => (hN3.lt b hb).1
            have hBl : B ≤ w3.heap.size := by rw [hB]; exact Nat.le_trans HM.out.grown.size hx3.size
            have hF3l : wr.heap.size < w3.heap.size := Nat.lt_of_lt_of_le Hlt.out HX3.out.size
            have hcO6 : w3.cell? ⟨w1.heap.size, 7, none⟩ = some N := by rw [cell_of_row _ _ _ _ _ _ hO3]; rfl
            have hcO5 : w3.cell? ⟨w1.heap.size, 6, none⟩ = some I := by rw [cell_of_row _ _ _ _ _ _ hO3]; rfl
            have HcO6 := Lib.hid hcO6
            have HcO5 := Lib.hid hcO5
            have HX3' := Lib.hid hx3
            have HO3 := Lib.hid hO3
            have HI1 : Hid (∀ b, I.ownBlock = some b → b < wr.heap.size) := Lib.hid fun b hb => (hI1.lt b hb).2
            have HN1 : Hid (∀ b, N.ownBlock = some b → b < wr.heap.size) := Lib.hid fun b hb => (hN1.lt b hb).2
            have HI3 := Lib.hid hI3
            have HN3' := Lib.hid hN3
            have HF3 := Lib.hid hF3
            have HIl := Lib.hid hIl
            have HNl := Lib.hid hNl
            have HIb := Lib.hid hIb
            have HNb := Lib.hid hNb
            have HfI := Lib.hid hfI
            have Hne2 := Lib.hid hne2
            have HB := Lib.hid hB
            have HBl := Lib.hid hBl
            clear hO hI0 hN0 hfI hne2 hB hI1 hN1 hx3 hO3 hI3 hN3 hF3 hIl hNl hIb hNb hBl hcO6 hcO5
            refine two_region (w3 := w3) (B := B) (O := w1.heap.size) (F := wr.heap.size) (I := I) (N := N) (k := k) (xsI := xsI) (xsN := (l'.take k).map fun p => .string p.1) (nm := p.1) (cs := [.int .i64 k1, .bool b1, .int .i64 n1, .string t1, .string ut1, .string ui1, .slice A1 l1 c1, .slice A2 l2 c2]) 9 11 53
              (by kernel_rfl) (by kernel_rfl) (fun i hi => ?_) ⟨by kernel_rfl, by kernel_rfl, by kernel_rfl, by kernel_rfl, by kernel_rfl, by kernel_rfl, by kernel_rfl, by kernel_rfl, by kernel_rfl, by kernel_rfl⟩ (by simp) (by omega) (by omega) rfl rfl HcO6.out HcO5.out HF3.out rfl Hva.out.one ?_ ?_ ?_ ?_ HI3.out HN3'.out Hne2.out HBl.out (by omega) ?_
            · rcases (by omega : i = 0 ∨ i = 1 ∨ i = 2 ∨ i = 3 ∨ i = 4 ∨ i = 5 ∨ i = 6 ∨ i = 7 ∨ i = 8 ∨ i = 9 ∨ i = 10 ∨ i = 11 ∨ i = 12) with rfl | rfl | rfl | rfl | rfl | rfl | rfl | rfl | rfl | rfl | rfl | rfl | rfl <;> exact ⟨_, rfl, rfl, rfl, rfl⟩
            · exact Blk_lt HO3.out
            · exact hF3l
            · intro b hb
              have h1 : w1.heap.size < B := by rw [HB.out]; simp
              exact ⟨fun e => by have := HIb.out b e; omega, fun e => by have := HNb.out b e; omega⟩
            · intro b hb
              exact ⟨fun e => by have := HI1.out b e; omega, fun e => by have := HN1.out b e; omega⟩
            intro xs w4 hxl hinv h5 h11 h12 hne4
            obtain ⟨x0, x1, x2, x3, x4, x5, x6, x7, x8, x9, x10, x11, x12, rfl⟩ := list13 hxl
            clear hxl
            simp only [List.getD_cons_succ, List.getD_cons_zero] at h5 h11 h12 hne4
            subst h12
            obtain ⟨E5, q5, rfl⟩ := own_shape h5.1
            obtain ⟨E11, q11, rfl⟩ := own_shape h11.1
            have hw4O := (hinv.block w1.heap.size (Blk_lt HO3.out) (fun e => by have h1 : w1.heap.size < B := (by rw [HB.out]; simp); have := HIb.out _ e; omega) (fun e => by have h1 : w1.heap.size < B := (by rw [HB.out]; simp); have := HNb.out _ e; omega)).trans HO3.out
            have k7 : w4.cell? ⟨w1.heap.size, 7, none⟩ = some N := by rw [cell_of_row _ _ _ _ _ _ hw4O]; rfl
            have k6 : w4.cell? ⟨w1.heap.size, 6, none⟩ = some I := by rw [cell_of_row _ _ _ _ _ _ hw4O]; rfl
            have f7 : w4.frozen? ⟨w1.heap.size, 7, none⟩ = false := frozen_of_row _ _ _ _ _ hw4O
            have f6 : w4.frozen? ⟨w1.heap.size, 6, none⟩ = false := frozen_of_row _ _ _ _ _ hw4O
            have H5 := Lib.hid h5
            have H11 := Lib.hid h11
            have Hinv := Lib.hid hinv
            have Hne4 := Lib.hid hne4
            clear h5 h11 hinv hne4 hw4O
            simp only [List.take, List.drop, putAll]
            go_wp2_with fail
            go_roundw
            case rel =>
              refine ⟨k + 1, by omega, by go_num, Making.next HM.out.grown HX3'.out HO3.out (by simp) Hinv.out (by rw [← HB.out]; exact HI3.out) (by rw [← HB.out]; exact HN3'.out) HfI.out (fun b hb => ?_) (by rw [← HB.out]; exact H5.out) (by rw [← HB.out]; exact H11.out) Hne4.out Hp1.out Hva.out, HN'.out⟩
              have h1 := Nat.lt_of_lt_of_le (HSW.out b hb) HX1.out.size
              exact ⟨by simp; omega, by omega⟩
            case measure => simp [intOf]; omega
        · have hke : k = l.length := by omega
          subst hke
          obtain ⟨hm, hne⟩ := HM
          have hlt0 : w.heap.size < wr.heap.size := by have := hm.grown.size; have := HX1.out.size; have := HS0.out; simp at *; omega
          have hcell : wr.heap[w.heap.size]? = some (.cells zeroCells.toArray 28 (0, 0)) := by
            have h1 := HX1.out.size
            have h2 := HS0.out
            rw [hm.grown.block _ (by simp; omega) (fun e => by injection e with e; omega), Below.heap_alloc _ _ _ (by omega), HX1.out.block _ (by omega)]
            exact HC.out
          have hstrict := fields_rise (l := l') Hpw.out fun i x y hx hy => hne i x y (by have := (List.getElem?_eq_some_iff.1 hy).1; have := Hll.out; omega) hx hy
          have hrec := record_rise Hp.out HE.out hstrict
          have hextf : Ext w wr := by
            have h1 : Ext w (w1.alloc (.cells #[.int .i64 6, .bool false, .int .i64 0, .string ByteArray.empty, .string ByteArray.empty, .string ByteArray.empty, .slice none 0 0, .slice none 0 0] 28)) := (HW.out.trans HX1.out).alloc _
            have h2 := (HW.out.trans HX1.out).size
            exact ⟨h1.toBelow.trans ⟨hm.grown.os, hm.grown.tape, hm.grown.output, hm.grown.size, fun b hb => hm.grown.block b (Nat.lt_of_lt_of_le hb h1.size) (fun e => by injection e with e; omega)⟩, Nat.le_trans h1.drawn hm.grown.drawn⟩
          obtain ⟨I, N, hO, hat⟩ := hm.fin (S' := fun b => (S b ∨ Fresh w.heap.size wr b) ∧ b ≠ w.heap.size) Hll.out (by rw [LIM_eq]; omega) (fun p hp => HN3.out _ (by
            have : p.1 ∈ (names.zip l).map (·.1) := List.mem_map.2 ⟨p, Hp.out.mem_iff.1 hp, rfl⟩
            rwa [zip_fst HE.out] at this)) (fun b hb => ⟨.inl hb, by have := HS.out b hb; omega⟩) (fun b h1 h2 => ⟨.inr ⟨by have := (HW.out.trans HX1.out).size; simp at h1; omega, h2⟩, by have := HX1.out.size; have := HS0.out; simp at h1; omega⟩)
          have HA := Lib.hid hat
          have HO := Lib.hid hO
          have HCl := Lib.hid hcell
          have HXf := Lib.hid hextf
          have HR := Lib.hid hrec
          have hone := hat.one
          have HOne := Lib.hid hone
          clear hm hne hcell hstrict hrec hextf hat hO hone
          go_wp2_with (first | refine wpList_load_cells rfl 28 _ rfl w1.heap.size 0 rfl Tryd.agg27 Tryd.size27 rfl (fun j v hj => by rw [cell_of_row _ _ _ _ _ _ HO.out, Nat.zero_add]; simpa using hj) ?_ | refine wpList_store_cells rfl 28 _ _ rfl w.heap.size 0 rfl [.int .i64 6, .bool false, .int .i64 0, .string ByteArray.empty, .string ByteArray.empty, .string ByteArray.empty, I, N] rfl Tryd.size27 rfl 28 zeroCells.toArray HCl.out (by simp [zeroCells]) HOne.out ?_)
          rw [HR0.out, HR.out]
          refine bodyPost_ret (v := .tuple #[.agg #[.int .i64 6, .bool false, .int .i64 0, .string ByteArray.empty, .string ByteArray.empty, .string ByteArray.empty, I, N], .int .i64 0]) (results_cell Tryd.results37 rfl Tryd.agg27 Tryd.size27 rfl (cellsAt_setRow HCl.out (by simp [zeroCells]))) rfl ⟨[.int .i64 6, .bool false, .int .i64 0, .string ByteArray.empty, .string ByteArray.empty, .string ByteArray.empty, I, N], rfl, ?_, HXf.out.setRow (Nat.le_refl _) _⟩
          refine (HA.out.alike (w' := wr.setRow w.heap.size _) fun b hb => (GrownBy.setRow wr w.heap.size _).block b ?_ (fun e => by injection e with e; exact hb.2 e)).mono fun b hb => ?_
          · rcases hb.1 with h | h
            · exact Nat.lt_of_lt_of_le (HS.out b h) HXf.out.size
            · exact h.2
          · rcases hb.1 with h | h
            · exact .inl h
            · exact .inr ⟨h.1, by simpa [World.setRow] using h.2⟩
end Go.Proofs.YtebfoimbdljbmaaDoor

/-
  A statement whose order Go leaves open: each operation is shown from a relation on what is done, on the slots and on the world; then a tail in a forced order. The conditions: none (lemmas on the model).
-/
namespace Go.Proofs.YtebfoimbdljbmaaDoor
open Go.RowKit

def done (L : Nat → Bool) (i : Nat) : Nat → Bool := fun j => if j = i then true else L j
theorem done_self (L : Nat → Bool) (i : Nat) : done L i i = true := by simp [done]
theorem done_ne {L : Nat → Bool} {i j : Nat} (h : j ≠ i) : done L i j = L j := by simp [done, h]

section
variable {P : Program} {l : List Oper} {n : Nat} {a0 : Act} {J : (Nat → Bool) → List Value → World → Prop}

/-- one operation, from what is so far -/
def InvStep (P : Program) (l : List Oper) (n : Nat) (a0 : Act) (J : (Nat → Bool) → List Value → World → Prop) (i : Nat) (o : Oper) : Prop :=
  ∀ (L : Nat → Bool) (xs : List Value) (w : World), xs.length = n → J L xs w → L i = false → (∀ j, j < n → waits l i j = true → L j = true) → (∀ j k, j < n → k < n → L j = true → waits l j k = true → L k = true) →
    ∀ (Q : Exit → Act → World → Prop) (K : Act → World → Prop), (∀ v w', J (done L i) (xs.set i v) w' → K ((putAll a0 (l.take n) xs).put o.dst v) w') →
      if Region.wanted o (yielded l.toArray (putAll a0 (l.take n) xs).tmps) then o.wp P (putAll a0 (l.take n) xs) w K Q else K ((putAll a0 (l.take n) xs).put o.dst undef) w

theorem inv_any (hB : monoB l n = true) (hJ : ∀ L L' xs w, (∀ i, i < n → L i = L' i) → J L xs w → J L' xs w) (hstep : ∀ i o, i < n → l[i]? = some o → InvStep P l n a0 J i o)
    {Q : Exit → Act → World → Prop} (hQ : ∀ L xs w, xs.length = n → (∀ i, i < n → L i = true) → J L xs w → wpList P l.toArray Q (l.drop n) (putAll a0 (l.take n) xs) w) :
    ∀ (k : Nat) (listed : Array Bool) (xs : List Value) (w : World), unlisted n listed = k → HeadInv .any l.toArray n listed → xs.length = n → J (fun i => listed.getD i true) xs w →
      wpAny P .any l.toArray Q (k + (l.length - n)) listed (putAll a0 (l.take n) xs) w := by
  simp only [monoB, Bool.and_eq_true, Bool.or_eq_true, decide_eq_true_eq] at hB
  obtain ⟨⟨⟨⟨hn, hd⟩, hac⟩, htail⟩, hseq⟩ := hB
  intro k
  induction k with
  | zero =>
    intro listed xs w hk inv hl hI
    have hall : ∀ i, i < n → listed.getD i true = true := fun i hi => by
      have h0 := List.countP_eq_zero.1 hk i (by simpa using hi)
      simpa using h0
    have hls : listed.size = l.length := by simpa using inv.size
    have he : listed = headDone n l.length := by
      apply Array.ext_getElem?
      intro i
      by_cases hi : i < n
      · have h1 := hall i hi
        have h2 : i < listed.size := by omega
        rw [Array.getD_eq_getD_getElem?, Array.getElem?_eq_getElem h2] at h1
        rw [Array.getElem?_eq_getElem h2]
        simp only [Option.getD_some] at h1
        simp only [headDone, h1, List.getElem?_toArray]
        rw [List.getElem?_append_left (by simpa using hi), List.getElem?_replicate, if_pos hi]
      · by_cases hi2 : i < l.length
        · have h1 := inv.tail i (by omega) (by simpa using hi2)
          have h2 : i < listed.size := by omega
          rw [Array.getD_eq_getD_getElem?, Array.getElem?_eq_getElem h2] at h1
          rw [Array.getElem?_eq_getElem h2]
          simp only [Option.getD_some] at h1
          simp only [headDone, h1]
          rw [List.getElem?_toArray, List.getElem?_append_right (by simpa using Nat.le_of_not_lt hi), List.getElem?_replicate]
          rw [if_pos (by simp; omega)]
        · rw [Array.getElem?_eq_none (by omega)]
          rw [Array.getElem?_eq_none (by simp [headDone]; omega)]
    have hw := hQ _ xs w hl hall hI
    rw [Nat.zero_add]
    have := wpAny_of_seq (md := .any) (Q' := Q) (l.drop n) n listed (putAll a0 (l.take n) xs) w (fun j => by simp [List.getElem?_drop]) (by rw [he]; simpa using hseq) hw
    simpa using this
  | succ k ih =>
    intro listed xs w hk inv hl hI
    have hls : listed.size = l.length := by simpa using inv.size
    obtain ⟨i0, hi0, hu0⟩ : ∃ i, i < n ∧ listed.getD i true = false := by
      have h0 : 0 < (List.range n).countP fun i => !listed.getD i true := by unfold unlisted at hk; omega
      obtain ⟨i, hi, hp⟩ := List.countP_pos_iff.1 h0
      exact ⟨i, by simpa using hi, by simpa using hp⟩
    have hready : Region.ready .any l.toArray listed ≠ [] := by
      have hmin : ∀ m i, i < m → i < n → listed.getD i true = false → ∃ j, j ∈ Region.ready .any l.toArray listed := by
        intro m
        induction m with
        | zero => intro i h; omega
        | succ m ihm =>
          intro i him hin hiu
          by_cases hex : ∃ j, j < i ∧ listed.getD j true = false
          · obtain ⟨j, hj, hju⟩ := hex
            exact ihm j (by omega) (by omega) hju
          · refine ⟨i, mem_ready.2 ⟨hiu, l[i]'(by omega), by simp, fun e he hb => ?_⟩⟩
            have h1 := List.all_eq_true.1 hac (l[i]'(by omega), i) (List.mem_zipIdx_iff_getElem?.2 (by rw [List.getElem?_take, if_pos hin]; exact List.getElem?_eq_getElem _))
            have h2 := Array.all_eq_true'.1 h1 e he
            simp only [hb, Bool.not_true, Bool.false_or, decide_eq_true_eq] at h2
            have h3 : listed.getD e.on true = true := by
              cases h : listed.getD e.on true with
              | true => rfl
              | false => exact absurd ⟨e.on, h2, h⟩ hex
            have h4 : e.on < listed.size := by omega
            rw [Array.getD_eq_getD_getElem?, Array.getElem?_eq_getElem h4] at h3 ⊢
            simpa using h3
      obtain ⟨j, hj⟩ := hmin (i0 + 1) i0 (by omega) hi0 hu0
      intro h; rw [h] at hj; cases hj
    rw [show k + 1 + (l.length - n) = (k + (l.length - n)) + 1 by omega]
    refine ⟨fun h => absurd h hready, fun i hi => ?_⟩
    obtain ⟨hiu, o, ho, hall⟩ := mem_ready.1 hi
    have hin : i < n := by
      rcases htail with h | ⟨⟨hnl, hs⟩, hc⟩
      · have := (Array.getElem?_eq_some_iff.1 ho).1
        simp at this; omega
      · rcases Nat.lt_or_ge i n with h | h
        · exact h
        · exact absurd hi (tail_waits hs hc (by simpa using hnl) inv _ i0 rfl hi0 hu0 i h)
    have ho' : l[i]? = some o := by simpa using ho
    have hfacts : ∀ j, j < n → waits l i j = true → listed.getD j true = true := fun j hj hwt => by
      unfold waits at hwt
      rw [ho'] at hwt
      obtain ⟨e, he, hbe⟩ := Array.any_eq_true'.1 hwt
      simp only [Bool.and_eq_true, beq_iff_eq] at hbe
      have h1 := hall e he hbe.1
      rw [hbe.2] at h1
      have h4 : j < listed.size := by omega
      rw [Array.getD_eq_getD_getElem?, Array.getElem?_eq_getElem h4] at h1 ⊢
      simpa using h1
    have hclosed : ∀ j m, j < n → m < n → listed.getD j true = true → waits l j m = true → listed.getD m true = true := fun j m hj hm hjl hw => by
      unfold waits at hw
      have hjlt : j < l.length := by omega
      rw [List.getElem?_eq_getElem hjlt] at hw
      obtain ⟨e, he, hbe⟩ := Array.any_eq_true'.1 hw
      simp only [Bool.and_eq_true, beq_iff_eq] at hbe
      have h1 := inv.closed j l[j] (by simp [hjlt]) (by
        have h4 : j < listed.size := by omega
        rw [Array.getD_eq_getD_getElem?, Array.getElem?_eq_getElem h4] at hjl ⊢
        simpa using hjl) e he hbe.1
      rw [hbe.2] at h1
      have h4 : m < listed.size := by omega
      rw [Array.getD_eq_getD_getElem?, Array.getElem?_eq_getElem h4] at h1 ⊢
      simpa using h1
    have hi2 : i < listed.size := by omega
    have hnext : ∀ v w', J (done (fun j => listed.getD j true) i) (xs.set i v) w' → wpAny P .any l.toArray Q (k + (l.length - n)) (listed.setIfInBounds i true) ((putAll a0 (l.take n) xs).put o.dst v) w' := by
      intro v w' hv
      rw [putAll_set (l.take n) xs a0 i o hd (by rw [List.getElem?_take, if_pos hin]; exact ho') (by simp; omega)]
      refine ih _ (xs.set i v) w' (by have := unlisted_set hin hiu; omega) (inv.set hi hin) (by simpa using hl) (hJ _ _ _ _ (fun j hj => ?_) hv)
      by_cases hji : j = i
      · subst hji
        rw [done_self]; simp [hi2]
      · rw [done_ne hji, getD_set_ne true (Ne.symm hji)]
    have hs := hstep i o hin ho' (fun j => listed.getD j true) xs w hl hI hiu hfacts hclosed Q (wpAny P .any l.toArray Q (k + (l.length - n)) (listed.setIfInBounds i true)) hnext
    unfold wpOp
    simp only [ho]
    split
    · rename_i hw; rw [if_pos hw] at hs; exact .inl hs
    · rename_i hw; rw [if_neg hw] at hs; exact hs

theorem region_inv0 {id : Nat} {Q : Exit → Act → World → Prop} {w : World} (hm : P.follows .mixedOrders = true) (hB : monoB l n = true) (hJ : ∀ L L' xs w, (∀ i, i < n → L i = L' i) → J L xs w → J L' xs w)
    (h0 : ∀ xs, xs.length = n → J (fun _ => false) xs w.drew) (hstep : ∀ i o, i < n → l[i]? = some o → InvStep P l n a0 J i o)
    (hQ : ∀ L xs w, xs.length = n → (∀ i, i < n → L i = true) → J L xs w → wpList P l.toArray Q (l.drop n) (putAll a0 (l.take n) xs) w) : (Code.region id l.toArray true).wp P Q a0 w := by
  refine wp_region_any hm ?_
  have hn : n ≤ l.length := by
    simp only [monoB, Bool.and_eq_true, decide_eq_true_eq] at hB
    exact hB.1.1.1.1
  have h := inv_any (Q := Q) hB hJ hstep hQ n (Array.replicate l.toArray.size false) (slotsOf a0 (l.take n)) w.drew (by
      unfold unlisted
      rw [List.countP_eq_length.2 (by
        intro i hi
        have hi' : i < n := by simpa using hi
        have : i < l.length := by omega
        simp [this])]
      simp) ⟨by simp, fun j oj _ hl => (by rw [getD_replicate_false] at hl; cases hl), fun t _ ht => getD_in (by simpa using ht) (getD_replicate_false _ _)⟩ (by simp [slotsOf]; omega)
      (hJ _ _ _ _ (fun i hi => by
        have : i < l.length := by omega
        simp [this]) (h0 _ (by simp [slotsOf]; omega)))
  rw [putAll_slots] at h
  rw [show n + (l.length - n) = l.toArray.size by simp; omega] at h
  exact h
end

/-! ### the slots, by what the operations say -/
def dstIs (l : List Oper) (j t : Nat) : Bool := match l[j]? with
  | some o => o.dst == some t
  | none => false
def notDst (l : List Oper) (n t : Nat) : Bool := (l.take n).all fun o => o.dst != some t
def plainB (l : List Oper) (n size : Nat) : Bool := (l.take n).all fun o => o.guard.isNone && (match o.dst with | some d => decide (d < size) | none => true)

theorem putAll_at2 {t : Tmp} : ∀ (l : List Oper) (xs : List Value) (a : Act) (i : Nat) (o : Oper), dstsApart l = true → l[i]? = some o → o.dst = some t → xs.length = l.length → t < a.tmps.size → (putAll a l xs).eval (.tmp t) = xs.getD i undef
  | [], _, _, _, _, _, h, _, _, _ => by simp at h
  | _ :: _, [], _, _, _, _, _, _, h, _ => by simp at h
  | p :: r, x :: s, a, 0, o, hd, h, ho, hl, ht => by
    simp at h; subst h
    simp only [dstsApart, Bool.and_eq_true, ho] at hd
    rw [putAll, putAll_old, ho, Act.eval_put_same ht]
    · rfl
    · intro q hq
      simpa using List.all_eq_true.1 hd.1 q hq
  | p :: r, x :: s, a, i + 1, o, hd, h, ho, hl, ht => by
    simp only [dstsApart, Bool.and_eq_true] at hd
    rw [putAll, putAll_at2 r s _ i o hd.2 (by simpa using h) ho (by simpa using hl) (by rw [Act.size_put]; exact ht)]
    simp

/-- each operation from a relation on what is done, the slots, the world -/
theorem region_inv {P : Program} {l : List Oper} {a0 : Act} {id : Nat} {Q : Exit → Act → World → Prop} {w : World} (n : Nat) (J : (Nat → Bool) → List Value → World → Prop) (hm : P.follows .mixedOrders = true) (hB : monoB l n = true) (hg : plainB l n a0.tmps.size = true)
    (hJ : ∀ L L' xs w, (∀ i, i < n → L i = L' i) → J L xs w → J L' xs w)
    (h0 : ∀ xs, xs.length = n → J (fun _ => false) xs w.drew)
    (hstep : ∀ i o, i < n → l[i]? = some o → ∀ (L : Nat → Bool) (xs : List Value) (w : World) (a : Act), xs.length = n → J L xs w → L i = false → (∀ j, j < n → waits l i j = true → L j = true) → (∀ j k, j < n → k < n → L j = true → waits l j k = true → L k = true) →
      (∀ t, notDst l n t = true → a.eval (.tmp t) = a0.eval (.tmp t)) → (∀ j t, j < n → dstIs l j t = true → a.eval (.tmp t) = xs.getD j undef) →
      ∀ (Q : Exit → Act → World → Prop) (K : Act → World → Prop), (∀ v w', J (done L i) (xs.set i v) w' → K (a.put o.dst v) w') → o.wp P a w K Q)
    (hQ : ∀ L xs w, xs.length = n → (∀ i, i < n → L i = true) → J L xs w → wpList P l.toArray Q (l.drop n) (putAll a0 (l.take n) xs) w) : (Code.region id l.toArray true).wp P Q a0 w := by
  have hB' := hB
  simp only [monoB, Bool.and_eq_true, decide_eq_true_eq] at hB'
  have hn : n ≤ l.length := hB'.1.1.1.1
  have hd : dstsApart (l.take n) = true := hB'.1.1.1.2
  have hln : (l.take n).length = n := by rw [List.length_take]; omega
  refine region_inv0 hm hB hJ h0 (fun i o hi ho => ?_) hQ
  intro L xs W hlen hj hL hw hc Q' K hK
  have hmem : o ∈ l.take n := List.mem_of_getElem? (i := i) (by rw [List.getElem?_take, if_pos hi]; exact ho)
  have hgd : o.guard = none := by
    have h := List.all_eq_true.1 hg o hmem
    simp only [Bool.and_eq_true] at h
    simpa using h.1
  rw [if_pos (by simp [Region.wanted, hgd])]
  refine hstep i o hi ho L xs W _ hlen hj hL hw hc (fun t ht => ?_) (fun j t hjn hjt => ?_) Q' K hK
  · exact putAll_old _ xs a0 fun p hp => by simpa using List.all_eq_true.1 ht p hp
  · unfold dstIs at hjt
    have hjl : j < l.length := by omega
    rw [List.getElem?_eq_getElem hjl] at hjt
    have hjt : l[j].dst = some t := by simpa using hjt
    have hjm : (l.take n)[j]? = some l[j] := by rw [List.getElem?_take, if_pos hjn]; exact List.getElem?_eq_getElem hjl
    refine putAll_at2 _ xs a0 j l[j] hd hjm hjt (by rw [hlen, hln]) ?_
    have h := List.all_eq_true.1 hg l[j] (List.mem_of_getElem? hjm)
    rw [hjt] at h
    simp only [Bool.and_eq_true, decide_eq_true_eq] at h
    exact h.2

/-! ### operations of which some act one behind the other, and all others come to known values -/
end Go.Proofs.YtebfoimbdljbmaaDoor
