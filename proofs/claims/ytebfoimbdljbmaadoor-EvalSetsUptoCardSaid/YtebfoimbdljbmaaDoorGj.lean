/-
  The marking of what is above an entity. The conditions: the store lies in memory as it should; its entities' names are apart, their parents are there.
-/
import Derived.Test.YtebfoimbdljbmaaDoorGi
import Derived.Test.YtebfoimbdljbmaaDoorGh
import Derived.Test.YtebfoimbdljbmaaDoorLaw5tQ
namespace Go.Proofs.YtebfoimbdljbmaaDoor
open Go.RowKit

theorem map_three {f : Operand → Value} {x y z : Operand} {v u t : Value} (h : f x = v) (k : f y = u) (l : f z = t) : #[x, y, z].map f = #[v, u, t] := by simp [h, k, l]
/-- a store in memory, but for what is above -/
structure StoreAt (S : Nat → Prop) (g bA bB : Nat) (c : List Ent) (vc : Value) (W : World) : Prop where
  box : W.heap[g]? = some (.cells #[vc, .map (some bA), .map (some bB)] 70 (0, 0))
  rows : entR.RowsAt S W c vc
  at' : MapU W bA (idx (c.map Ent.uid)) c.length
  old : ∀ b, S b → b < W.heap.size ∧ b ≠ bB
  apart : g ≠ bB ∧ bA ≠ bB
theorem StoreAt.grown {S : Nat → Prop} {g bA bB : Nat} {c : List Ent} {vc : Value} {W W' : World} (h : StoreAt S g bA bB c vc W) (k : GrownBy W W' (some bB)) : StoreAt S g bA bB c vc W' :=
  ⟨(k.block _ (Blk_lt h.box) fun e => h.apart.1 (Option.some.inj e)).trans h.box, h.rows.alike fun b hb => k.block b (h.old b hb).1 fun e => (h.old b hb).2 (Option.some.inj e),
    h.at'.block (k.block _ h.at'.lt fun e => h.apart.2 (Option.some.inj e)), fun b hb => ⟨Nat.lt_of_lt_of_le (h.old b hb).1 k.size, (h.old b hb).2⟩, h.apart⟩
theorem StoreAt.ext {S : Nat → Prop} {g bA bB : Nat} {c : List Ent} {vc : Value} {W W' : World} (h : StoreAt S g bA bB c vc W) (k : Ext W W') : StoreAt S g bA bB c vc W' := h.grown (GrownBy.of_ext _ k)
/-- entities of which every parent is there, and no name twice -/
structure Tidy (c : List Ent) : Prop where
  names : (c.map Ent.uid).Nodup
  pars : ∀ e ∈ c, ∀ p ∈ e.ps, p ∈ c.map Ent.uid
  len : c.length ≤ 1000
  plen : ∀ e ∈ c, e.ps.length ≤ 1000

def ofFrom (s : Uid) (m : Pair → Bool) : Uid → Bool := fun q => m (s, q)
/-- what a marking leaves -/
structure Climbed (c : List Ent) (frm : Uid) (x : Ent) (k : Nat) (m m' : Pair → Bool) (cnt cnt' : Nat) : Prop where
  marked : Marked c x.uid k x (ofFrom frm m) (ofFrom frm m')
  other : ∀ p : Pair, p.1 ≠ frm → m' p = m p
  count : cnt' + leftN (c.map Ent.uid) (ofFrom frm m') ≤ cnt + leftN (c.map Ent.uid) (ofFrom frm m)
def markP (frm p : Uid) (m : Pair → Bool) : Pair → Bool := fun y => decide (y = (frm, p)) || m y
theorem ofFrom_mark (frm p : Uid) (m : Pair → Bool) : ofFrom frm (markP frm p m) = fun q => decide (q = p) || ofFrom frm m q := by
  funext q
  unfold ofFrom markP
  congr 1
  simp
/-- over one more parent -/
theorem Climbed.step {c : List Ent} (ht : Tidy c) {frm : Uid} {x f : Ent} {k : Nat} {m m' m2 : Pair → Bool} {cnt cnt' cnt2 : Nat} (h : Climbed c frm x k m m' cnt cnt') (hx : x ∈ c) {p : Uid} (hp : x.ps[k]? = some p) (hm : m' (frm, p) = false) (hf : f ∈ c) (hfp : f.uid = p)
    (h2 : Climbed c frm f f.ps.length (markP frm p m') m2 (cnt' + 1) cnt2) : Climbed c frm x (k + 1) m m2 cnt cnt2 := by
  have hpn := ht.pars x hx p (List.mem_of_getElem? hp)
  refine ⟨Marked.step ht.names h.marked hp hf hfp (.one ⟨x, hx, rfl, List.mem_of_getElem? hp, hpn⟩) ?_, fun y hy => ?_, ?_⟩
  · have := h2.marked
    rw [ofFrom_mark, hfp] at this
    exact this
  · rw [h2.other y hy, ← h.other y hy]
    unfold markP
    have : y ≠ (frm, p) := fun e => hy (by rw [e])
    simp [this]
  · have h3 := leftN_mark (us := c.map Ent.uid) (m := ofFrom frm m') hpn hm
    have h4 := h2.count
    rw [ofFrom_mark] at h4
    have h5 := h.count
    omega
theorem Climbed.skip {c : List Ent} {frm : Uid} {x : Ent} {k : Nat} {m m' : Pair → Bool} {cnt cnt' : Nat} (h : Climbed c frm x k m m' cnt cnt') {p : Uid} (hp : x.ps[k]? = some p) (hm : m' (frm, p) = true) : Climbed c frm x (k + 1) m m' cnt cnt' :=
  ⟨h.marked.skip hp hm, h.other, h.count⟩
def StageM (bB : Nat) (w5 : World) (m : Pair → Bool) (cnt : Nat) : List Value → World → Prop
  | [], W => Ext w5 W
  | [_], W => MapP W bB m cnt ∧ GrownBy w5 W (some bB)
  | _, _ => False
theorem StageM.grown {bB : Nat} {w5 W : World} {m : Pair → Bool} {cnt : Nat} {vs : List Value} (h : StageM bB w5 m cnt vs W) : GrownBy w5 W (some bB) := by
  match vs, h with
  | [], h => exact GrownBy.of_ext _ (show Ext w5 W from h)
  | [_], h => exact h.2
  | _ :: _ :: _, h => exact h.elim
def StageR (c : List Ent) (frm : Uid) (f : Ent) (m : Pair → Bool) (cnt bB : Nat) (w6 : World) : List Value → World → Prop
  | [], W => Ext w6 W
  | [_], W => ∃ m' cnt', MapP W bB m' cnt' ∧ Climbed c frm f f.ps.length m m' cnt cnt' ∧ GrownBy w6 W (some bB)
  | _, _ => False
theorem StageR.grown {c : List Ent} {frm : Uid} {f : Ent} {m : Pair → Bool} {cnt bB : Nat} {w6 W : World} {vs : List Value} (h : StageR c frm f m cnt bB w6 vs W) : GrownBy w6 W (some bB) := by
  match vs, h with
  | [], h => exact GrownBy.of_ext _ (show Ext w6 W from h)
  | [_], ⟨_, _, _, _, h⟩ => exact h
  | _ :: _ :: _, h => exact h.elim

end Go.Proofs.YtebfoimbdljbmaaDoor

/-
  The store of entities: what the program's Load leaves in memory. The conditions: the entities lie in memory as they should, and are few.
-/
namespace Go.Proofs.YtebfoimbdljbmaaDoor
open Go.RowKit

/-- a store in memory -/
structure Fam (W : World) (g : Nat) (c : List Ent) : Prop where
  ex : ∃ (S : Nat → Prop) (bA bB : Nat) (vc : Value) (m : Pair → Bool) (cnt : Nat), StoreAt S g bA bB c vc W ∧ MapP W bB m cnt ∧ (∀ u q, m (u, q) = true ↔ UpTo c u q) ∧ cnt ≤ 1048000
  tidy : Tidy c
theorem Fam.ext {W W' : World} {g : Nat} {c : List Ent} (h : Fam W g c) (k : Ext W W') : Fam W' g c := by
  obtain ⟨S, bA, bB, vc, m, cnt, h1, h2, h3⟩ := h.ex
  exact ⟨⟨S, bA, bB, vc, m, cnt, h1.ext k, h2.ext k, h3⟩, h.tidy⟩

/-- the marks of the first entities -/
def MarksUpTo (c : List Ent) (i : Nat) (m : Pair → Bool) : Prop := ∀ u q, m (u, q) = true ↔ (∃ j, j < i ∧ (c.map Ent.uid)[j]? = some u) ∧ UpTo c u q
theorem MarksUpTo.free {c : List Ent} (hn : (c.map Ent.uid).Nodup) {i : Nat} {m : Pair → Bool} (h : MarksUpTo c i m) {x : Ent} (hx : c[i]? = some x) (q : Uid) : m (x.uid, q) = false := by
  cases hm : m (x.uid, q) with
  | false => rfl
  | true =>
    obtain ⟨⟨j, hj, hju⟩, _⟩ := (h _ _).1 hm
    have h1 := idx_of_get hn hju
    have h2 := idx_of_get (i := i) (u := x.uid) hn (by rw [List.getElem?_map, hx]; rfl)
    rw [h1] at h2
    injection h2 with h2
    omega
theorem MarksUpTo.step {c : List Ent} (ht : Tidy c) {i : Nat} {m m' : Pair → Bool} {cnt cnt' : Nat} (h : MarksUpTo c i m) {x : Ent} (hx : c[i]? = some x) (k : Climbed c x.uid x x.ps.length m m' cnt cnt') : MarksUpTo c (i + 1) m' := fun u q => by
  have hxc := List.mem_of_getElem? hx
  by_cases hu : u = x.uid
  · subst hu
    have h1 := Marked.all ht.names hxc (fun p hp => ht.pars x hxc p hp) (m := ofFrom x.uid m) (fun q => h.free ht.names hx q) k.marked q
    have h1 : m' (x.uid, q) = true ↔ UpTo c x.uid q := h1
    rw [h1]
    exact ⟨fun h => ⟨⟨i, by omega, by rw [List.getElem?_map, hx]; rfl⟩, h⟩, fun h => h.2⟩
  · rw [k.other (u, q) hu, h u q]
    constructor
    · rintro ⟨⟨j, hj, hju⟩, h2⟩
      exact ⟨⟨j, by omega, hju⟩, h2⟩
    · rintro ⟨⟨j, hj, hju⟩, h2⟩
      refine ⟨⟨j, ?_, hju⟩, h2⟩
      rcases Nat.lt_or_ge j i with h3 | h3
      · exact h3
      · have : j = i := by omega
        subst this
        rw [List.getElem?_map, hx] at hju
        exact absurd (Option.some.inj hju).symm hu
theorem MarksUpTo.all {c : List Ent} {m : Pair → Bool} (h : MarksUpTo c c.length m) (u q : Uid) : m (u, q) = true ↔ UpTo c u q := by
  rw [h u q]
  refine ⟨fun h => h.2, fun hup => ⟨?_, hup⟩⟩
  obtain ⟨j, hj⟩ := List.mem_iff_getElem?.1 hup.names.1
  exact ⟨j, by have := (List.getElem?_eq_some_iff.1 hj).1; simpa using this, hj⟩
def StageU (c : List Ent) (bA k : Nat) (w3 : World) : List Value → World → Prop
  | [], W => Ext w3 W
  | [_], W => MapU W bA (idx ((c.map Ent.uid).take (k + 1))) (k + 1) ∧ GrownBy w3 W (some bA)
  | _, _ => False
theorem StageU.grown {c : List Ent} {bA k : Nat} {w3 W : World} {vs : List Value} (h : StageU c bA k w3 vs W) : GrownBy w3 W (some bA) := by
  match vs, h with
  | [], h => exact GrownBy.of_ext _ (show Ext w3 W from h)
  | [_], h => exact h.2
  | _ :: _ :: _, h => exact h.elim

end Go.Proofs.YtebfoimbdljbmaaDoor

/-
  What the program tells of a store: an entity by its name, all of them, whether one is in another one. The conditions: the store lies in memory as it should.
-/
namespace Go.Proofs.YtebfoimbdljbmaaDoor
open Go.RowKit

theorem exec_assign {P : Program} {o : Oper} {a : Act} {w : World} {x : Operand} {v : Value} (ho : o.op = .assign x) (hv : a.eval x = v) : (execOp a.eval o).run P w = .ok (.value v) w := by
  unfold execOp
  simp [ho, hv]
section
open Go.Maps
end
def zeroEnt : List Value := entCells (ByteArray.empty, ByteArray.empty) (.slice none 0 0) zeroCells
/-! ### all of them -/
/-- a row of the call's own, whose things lie in new memory that may be written -/
def OwnD {α : Type} (R : Rep α) (T : TypeId) (base : Nat) (W : World) (v : Value) (l : List α) : Prop :=
  ∃ xs, W.ownsRow base T R.size v l.length xs ∧ R.Flat (MadeU base W v) W l xs
section
variable {α : Type} {R : Rep α} {T : TypeId} {base : Nat} {W W' : World} {v v' : Value} {l : List α}
theorem OwnD.nil : OwnD R T base W (.slice none 0 0) [] := ⟨[], World.ownsRow_nil _ _ _ _, rfl⟩
theorem MadeU.ext {b : Nat} (h : MadeU base W v b) (k : Ext W W') : MadeU base W' v b := ⟨h.1, (h.fresh.ext k).2, h.2.2⟩
theorem OwnD.ext (h : OwnD R T base W v l) (k : Ext W W') : OwnD R T base W' v l := by
  obtain ⟨xs, h1, h2⟩ := h
  exact ⟨xs, ownsRow_ext h1 k, (Rep.Flat.alike (Alike.of_ext k fun b hb => hb.lt) h2).mono fun b hb => hb.ext k⟩
theorem OwnD.shape (h : OwnD R T base W v l) : ∃ A cap, v = .slice A l.length cap := by
  obtain ⟨xs, h1, _⟩ := h
  exact own_shape h1
theorem OwnD.lt (h : OwnD R T base W v l) : ∀ b, v.ownBlock = some b → base ≤ b ∧ b < W.heap.size := by
  obtain ⟨xs, h1, _⟩ := h
  exact h1.lt
theorem OwnD.rows (h : OwnD R T base W v l) (hl : l.length ≤ LIM) : R.RowsAt (FreshU base W) W l v := by
  obtain ⟨xs, h1, h2⟩ := h
  exact own_rows h1 h2 hl (fun b hb => hb.fresh) fun b hb => own_free h1 hb
theorem OwnD.push {x : α} {xs cs : List Value} (hf : R.Flat (MadeU base W v) W l xs) (hx : R.At (MadeU base W v) W x cs) (hg : GrownBy W W' v.ownBlock)
    (ho : W'.ownsRow base T R.size v' (l.length + 1) (xs ++ cs)) (hv : v'.ownBlock = v.ownBlock ∨ v'.ownBlock = some W.heap.size) : OwnD R T base W' v' (l ++ [x]) := by
  have hal : Alike (MadeU base W v) W W' := fun b hb => hg.block b hb.lt fun e => hb.2.2 e.symm
  refine ⟨xs ++ cs, by simpa using ho, ?_⟩
  refine Rep.Flat.mono (S := MadeU base W v) (fun b hb => ⟨hb.1, (hb.fresh.grown hg fun e => hb.2.2 e.symm).2, fun e => ?_⟩) (Rep.Flat.snoc (R.alike hx hal) (Rep.Flat.alike hal hf))
  rcases hv with hv | hv
  · exact hb.2.2 (hv ▸ e)
  · rw [hv] at e; injection e with e; have := hb.lt; omega
end
end Go.Proofs.YtebfoimbdljbmaaDoor

/-
  Whether one is, or is below, another one, by the program's store. The conditions: the store lies in memory as it should.
-/
namespace Go.Proofs.YtebfoimbdljbmaaDoor
open Go.RowKit

open Classical in
/-- is, or is below -/
noncomputable def inB (c : List Ent) (a b : Uid) : Bool := decide (a = b) || decide (UpTo c a b)

end Go.Proofs.YtebfoimbdljbmaaDoor
