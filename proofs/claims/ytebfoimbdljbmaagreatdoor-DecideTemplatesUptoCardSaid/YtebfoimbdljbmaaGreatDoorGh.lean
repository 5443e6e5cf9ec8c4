/-
  Ways from number to number: what a table that is filled up holds, and that nothing is above itself just if there is no way round. No program in sight. The conditions: none (definitions and lemmas).
-/
import Derived.Test.YtebfoimbdljbmaaGreatDoorGf
import Derived.Test.YtebfoimbdljbmaaGreatDoorGd
import Derived.Test.YtebfoimbdljbmaaGreatDoorGb
import Derived.Test.YtebfoimbdljbmaaGreatDoorGk
namespace Go.Proofs.YtebfoimbdljbmaaGreatDoor
section
variable (E : Nat → Nat → Prop)
def Via : Nat → Nat → Nat → Prop
 | 0, a, b => E a b
 | k + 1, a, b => Via k a b ∨ (Via k a k ∧ Via k k b)
variable {E}
theorem Via.step {k a b : Nat} (h : Via E k a b) : Via E (k + 1) a b := .inl h
theorem Via.le {k m a b : Nat} (h : Via E k a b) (hk : k ≤ m) : Via E m a b := by
 induction hk with
 | refl => exact h
 | step _ ih => exact ih.step
theorem Via.edge {m a b : Nat} (h : E a b) : Via E m a b := Via.le (k := 0) h (Nat.zero_le _)
theorem Via.trans : ∀ {k a b c : Nat}, c < k → Via E k a c → Via E k c b → Via E k a b
 | 0, _, _, _, h, _, _ => by omega
 | k + 1, a, b, c, hc, h1, h2 => by
  by_cases he : c = k
  ·subst he
   have p1 : Via E c a c := h1.elim id And.left
   have p2 : Via E c c b := h2.elim id And.right
   exact .inr ⟨p1, p2⟩
  ·have hlt : c < k := by omega
   rcases h1 with h1 | h1 <;> rcases h2 with h2 | h2
   ·exact .inl (Via.trans hlt h1 h2)
   ·exact .inr ⟨Via.trans hlt h1 h2.1, h2.2⟩
   ·exact .inr ⟨h1.1, Via.trans hlt h1.2 h2⟩
   ·exact .inr ⟨h1.1, h2.2⟩
theorem Via.lt {n : Nat} (hE : ∀ a b, E a b → a < n ∧ b < n) : ∀ {k a b : Nat}, Via E k a b → a < n ∧ b < n
 | 0, _, _, h => hE _ _ h
 | k + 1, a, b, h => by
  rcases h with h | ⟨h1, h2⟩
  ·exact Via.lt hE h
  ·exact ⟨(Via.lt hE h1).1, (Via.lt hE h2).2⟩
end
def EdgeN (l : List Ent) (i k : Nat) : Prop := k ∈ parN l i
theorem EdgeN.lt {l : List Ent} : ∀ a b, EdgeN l a b → a < l.length ∧ b < l.length := fun a b h => by
 refine ⟨?_, parN_lt h⟩
 unfold EdgeN parN at h
 split at h
 ·rename_i e he; exact (List.getElem?_eq_some_iff.1 he).1
 ·simp at h
/-! ### a table that is filled up -/
section
variable {E : Nat → Nat → Prop} {n : Nat}
def Snd (E : Nat → Nat → Prop) (n : Nat) (t : Nat → Nat → Bool) : Prop := ∀ a b, a < n → b < n → t a b = true → Via E n a b
def Cpl (E : Nat → Nat → Prop) (n k : Nat) (t : Nat → Nat → Bool) : Prop := ∀ a b, a < n → b < n → Via E k a b → t a b = true
def setT (t : Nat → Nat → Bool) (i j : Nat) : Nat → Nat → Bool := fun a b => if a = i ∧ b = j then true else t a b
theorem setT_mono {t : Nat → Nat → Bool} {i j a b : Nat} (h : t a b = true) : setT t i j a b = true := by unfold setT; split <;> simp [h]
theorem setT_same {t : Nat → Nat → Bool} {i j : Nat} : setT t i j i j = true := by simp [setT]
theorem Snd.set {t : Nat → Nat → Bool} {i j : Nat} (h : Snd E n t) (hv : Via E n i j) : Snd E n (setT t i j) := fun a b ha hb hab => by
 unfold setT at hab
 split at hab
 ·rename_i he; obtain ⟨rfl, rfl⟩ := he; exact hv
 ·exact h a b ha hb hab
theorem Cpl.set {t : Nat → Nat → Bool} {k i j : Nat} (h : Cpl E n k t) : Cpl E n k (setT t i j) := fun a b ha hb hab => setT_mono (h a b ha hb hab)
def Edg (E : Nat → Nat → Prop) (i : Nat) (t : Nat → Nat → Bool) : Prop := ∀ a b, a < i → E a b → t a b = true
theorem Edg.set {t : Nat → Nat → Bool} {m i j : Nat} (h : Edg E m t) : Edg E m (setT t i j) := fun a b ha hab => setT_mono (h a b ha hab)
def Row (E : Nat → Nat → Prop) (n k i j : Nat) (t : Nat → Nat → Bool) : Prop := ∀ a b, a < n → b < n → (a < i ∨ (a = i ∧ b < j)) → Via E k a k → Via E k k b → t a b = true
theorem Row.set {t : Nat → Nat → Bool} {k i j p q : Nat} (h : Row E n k i j t) : Row E n k i j (setT t p q) := fun a b ha hb hab h1 h2 => setT_mono (h a b ha hb hab h1 h2)
theorem Row.zero {t : Nat → Nat → Bool} {k : Nat} : Row E n k 0 0 t := fun a b _ _ h => by omega
theorem Row.next {t : Nat → Nat → Bool} {k i : Nat} (h : Row E n k i n t) : Row E n k (i + 1) 0 t := fun a b ha hb hab h1 h2 => h a b ha hb (by omega) h1 h2
end
/-! ### a rising row with one more -/
def putU (u : Uid) : Bool → List Uid → List Uid
 | put, [] => if put then [] else [u]
 | put, x :: r => (if put = false ∧ 0 ≤ ordU x u then [u] else []) ++ (if x = u then [] else [x]) ++ putU u (put || decide (0 ≤ ordU x u)) r
theorem ordU_self (u : Uid) : ordU u u = 0 := (GoodAt.ordU u).refl
end Go.Proofs.YtebfoimbdljbmaaGreatDoor

/-
  The reference's table of what ways lead to: what it holds at the end. The conditions: the entities lie in memory as they should, and are few.
-/
namespace Go.Proofs.YtebfoimbdljbmaaGreatDoor
open Go.RowKit
def TabAt (w : World) (g n : Nat) (t : Nat → Nat → Bool) : Prop :=
 ∃ cur, w.heap[g]? = some (.cells cur 4 (0, 0)) ∧ cur.size = n * n ∧ ∀ i j, i < n → j < n → cur[i * n + j]? = some (.bool (t i j))
theorem sq_lt {n i j : Nat} (hi : i < n) (hj : j < n) : i * n + j < n * n := by
 have h1 : (i + 1) * n ≤ n * n := Nat.mul_le_mul_right _ hi
 rw [Nat.succ_mul] at h1
 omega
theorem sq_inj {n i j a b : Nat} (hj : j < n) (hb : b < n) (h : a * n + b = i * n + j) : a = i ∧ b = j := by
 have hn : 0 < n := by omega
 have h1 : (a * n + b) / n = a := by rw [Nat.mul_comm, Nat.mul_add_div hn, Nat.div_eq_of_lt hb, Nat.add_zero]
 have h2 : (i * n + j) / n = i := by rw [Nat.mul_comm, Nat.mul_add_div hn, Nat.div_eq_of_lt hj, Nat.add_zero]
 have h3 : a = i := by rw [← h1, h, h2]
 subst h3
 exact ⟨rfl, by omega⟩
theorem TabAt.cell {w : World} {g n : Nat} {t : Nat → Nat → Bool} (h : TabAt w g n t) {i j : Nat} (hi : i < n) (hj : j < n) : w.cell? ⟨g, i * n + j, none⟩ = some (.bool (t i j)) := by
 obtain ⟨cur, h1, h2, h3⟩ := h
 rw [cell_of_row _ _ _ _ _ _ h1]
 exact h3 i j hi hj
theorem TabAt.free {w : World} {g n : Nat} {t : Nat → Nat → Bool} (h : TabAt w g n t) (k : Nat) : w.frozen? ⟨g, k, none⟩ = false := by
 obtain ⟨cur, h1, _⟩ := h
 exact frozen_of_row _ _ _ _ _ h1
theorem TabAt.lt {w : World} {g n : Nat} {t : Nat → Nat → Bool} (h : TabAt w g n t) : g < w.heap.size := by
 obtain ⟨cur, h1, _⟩ := h
 exact zaf h1
theorem TabAt.ext {w w' : World} {g n : Nat} {t : Nat → Nat → Bool} (h : TabAt w g n t) (k : Ext w w') : TabAt w' g n t := by
 obtain ⟨cur, h1, h2⟩ := h
 exact ⟨cur, (k.block _ (zaf h1)).trans h1, h2⟩
theorem TabAt.set {w : World} {g n : Nat} {t : Nat → Nat → Bool} (h : TabAt w g n t) {i j : Nat} (_hi : i < n) (hj : j < n) : TabAt (w.setCell ⟨g, i * n + j, none⟩ (.bool true)) g n (setT t i j) := by
 obtain ⟨cur, h1, h2, h3⟩ := h
 refine ⟨_, zaq h1 _ _, by simpa using h2, fun a b ha hb => ?_⟩
 rw [Array.getElem?_setIfInBounds]
 unfold setT
 by_cases he : a = i ∧ b = j
 ·obtain ⟨rfl, rfl⟩ := he
  rw [if_pos rfl, if_pos (by rw [h2]; exact sq_lt ha hb), if_pos ⟨rfl, rfl⟩]
 ·rw [if_neg (fun e => he (sq_inj hj hb e.symm)), if_neg he]
  exact h3 a b ha hb
def RowE (l : List Ent) (i q : Nat) (x : Ent) (t : Nat → Nat → Bool) : Prop := ∀ (j : Nat) (u : Uid) (p : Nat), j < q → x.ps[j]? = some u → idx (l.map Ent.uid) u = some p → t i p = true
theorem RowE.edge {l : List Ent} {i q p : Nat} {x : Ent} {u : Uid} (hx : l[i]? = some x) (hu : x.ps[q]? = some u) (hp : idx (l.map Ent.uid) u = some p) : EdgeN l i p := by
 show p ∈ parN l i
 rw [parN_of hx, List.mem_filterMap]
 exact ⟨u, List.mem_of_getElem? hu, hp⟩
def Fill2 (l : List Ent) (g i q : Nat) (x : Ent) (w : World) : Prop := ∃ t, TabAt w g l.length t ∧ Snd (EdgeN l) l.length t ∧ Edg (EdgeN l) i t ∧ RowE l i q x t
theorem RowE.set {l : List Ent} {i q a b : Nat} {x : Ent} {t : Nat → Nat → Bool} (h : RowE l i q x t) : RowE l i q x (setT t a b) := fun j u p h1 h2 h3 => setT_mono (h j u p h1 h2 h3)
theorem Fill2.one {l : List Ent} {g i q p : Nat} {x : Ent} {w : World} {y : Uid} (hx : l[i]? = some x) (h : Fill2 l g i q x w) (hy : x.ps[q]? = some y) (hf : idx (l.map Ent.uid) y = some p) (hi : i < l.length) (hp : p < l.length) : Fill2 l g i (q + 1) x (w.setCell ⟨g, i * l.length + p, none⟩ (.bool true)) := by
 obtain ⟨t, h1, h2, h3, h4⟩ := h
 refine ⟨_, h1.set hi hp, h2.set (Via.edge (RowE.edge hx hy hf)), h3.set, fun j u p' hj hu hp' => ?_⟩
 by_cases he : j = q
 ·subst he; rw [hy] at hu; cases hu; rw [hf] at hp'; cases hp'; exact setT_same
 ·exact h4.set j u p' (by omega) hu hp'
theorem Fill2.ext {l : List Ent} {g i q : Nat} {x : Ent} {w w' : World} (h : Fill2 l g i q x w) (k : Ext w w') : Fill2 l g i q x w' := by
 obtain ⟨t, h1, h2⟩ := h
 exact ⟨t, h1.ext k, h2⟩
end Go.Proofs.YtebfoimbdljbmaaGreatDoor

/-
  The reference's entity as it must be. The conditions: the entities lie in memory as they should, none is nested deeper than a million.
-/
namespace Go.Proofs.YtebfoimbdljbmaaGreatDoor
open Go.RowKit
structure OutAt (w w4 : World) (x : Ent) (avc : List Value) (acc : List Uid) (pv : Value) (W : World) : Prop where
 box : W.heap[w.heap.size + 1 + 1]? = some (.cells (za1 x.uid pv avc).toArray 87 (0, 0))
 own : OwnL uidR 23 w4.heap.size W pv acc
 grown : GrownBy w4 W (some (w.heap.size + 1 + 1))
def StagePut (w w4 : World) (x : Ent) (avc : List Value) (acc : List Uid) (y : Uid) (pv : Value) : List Value → World → Prop
 | [], W => OutAt w w4 x avc acc pv W
 | [v1], W => v1 = pv ∧ OutAt w w4 x avc acc pv W
 | [_, v2], W => OutAt w w4 x avc acc pv W ∧ OwnL uidR 23 w4.heap.size W v2 (putU y false acc)
 | [_, v2, _], W => OutAt w w4 x avc (putU y false acc) v2 W
 | _, _ => False
theorem OutAt.ext {w w4 : World} {x : Ent} {avc : List Value} {acc : List Uid} {pv : Value} {W W' : World} (h : OutAt w w4 x avc acc pv W) (k : Ext W W') : OutAt w w4 x avc acc pv W' :=
 ⟨(k.block _ (zaf h.box)).trans h.box, h.own.ext k, h.grown.trans (GrownBy.of_ext _ k)⟩
theorem StagePut.grown {w w4 : World} {x : Ent} {avc : List Value} {acc : List Uid} {y : Uid} {pv : Value} {vs : List Value} {W : World} (h : StagePut w w4 x avc acc y pv vs W) : GrownBy w4 W (some (w.heap.size + 1 + 1)) := by
 match vs, h with
 | [], h => exact OutAt.grown h
 | [_], h => exact h.2.grown
 | [_, _], h => exact h.1.grown
 | [_, _, _], h => exact OutAt.grown h
 | _ :: _ :: _ :: _ :: _, h => exact h.elim
end Go.Proofs.YtebfoimbdljbmaaGreatDoor

/-
  A row of entities that a call makes itself, each with a row of parents of its own: laid, added to, written. The conditions: none.
-/
namespace Go.Proofs.YtebfoimbdljbmaaGreatDoor
open Go.RowKit
/-! ### a row of entities that a call makes itself, each with a row of parents -/
def zbe (es : List Ent) (pvs : List Value) : List Value := ((es.zip pvs).map fun p => za1 p.1.uid p.2 recC).flatten
structure Chain (base : Nat) (W : World) (v : Value) (es : List Ent) (pvs : List Value) : Prop where
 len : pvs.length = es.length
 row : W.ownsRow base 87 11 v es.length (zbe es pvs)
 fit : ∀ e ∈ es, zaw e.uid ∧ e.av = recV ∧ e.ps.length ≤ 2
 pars : ∀ (i : Nat) (e : Ent) (pv : Value), es[i]? = some e → pvs[i]? = some pv → ∃ xs, W.ownsRow base 23 2 pv e.ps.length xs ∧ uidR.Flat (fun _ => True) W e.ps xs
 apart : ∀ (i j : Nat) (p q : Value) (b : Nat), pvs[i]? = some p → pvs[j]? = some q → p.ownBlock = some b → q.ownBlock = some b → i = j
theorem Chain.nil (base : Nat) (W : World) : Chain base W (.slice none 0 0) [] [] :=
 ⟨rfl, World.ownsRow_nil _ _ _ _, fun _ h => by simp at h, fun _ _ _ h => by simp at h, fun _ _ _ _ _ h => by simp at h⟩
theorem Chain.later {base : Nat} {W W' : World} {v : Value} {es : List Ent} {pvs : List Value} (h : Chain base W v es pvs) (k : Ext W W') : Chain base W' v es pvs :=
 ⟨h.len, zah h.row k, h.fit, fun i e pv he hp => let ⟨xs, h1, h2⟩ := h.pars i e pv he hp; ⟨xs, zah h1 k, zcd h2⟩, h.apart⟩
theorem ne6023 : (87 : TypeId) ≠ 23 := by decide
theorem Chain.push {base : Nat} {wr W1 W2 w2 : World} {v v' : Value} {es : List Ent} {pvs : List Value} {e : Ent} {pv : Value} {xs : List Value} (h : Chain base wr v es pvs) (h1 : Ext wr W1) (h2 : Ext W1 W2) (hfit : zaw e.uid ∧ e.av = recV ∧ e.ps.length ≤ 2)
  (hown : W1.ownsRow base 23 2 pv e.ps.length xs) (hf : uidR.Flat (fun _ => True) W1 e.ps xs) (hnew : ∀ b, pv.ownBlock = some b → wr.heap.size ≤ b)
  (hrow : w2.ownsRow base 87 11 v' (es.length + 1) (zbe es pvs ++ za1 e.uid pv recC)) (hg : GrownBy W2 w2 v.ownBlock) : Chain base w2 v' (es ++ [e]) (pvs ++ [pv]) := by
 have hlen := h.len
 refine ⟨by simp [hlen], ?_, fun x hx => ?_, fun i x q hx hq => ?_, fun i j p q b hp hq hb hc => ?_⟩
 ·rw [List.length_append, List.length_singleton]
  have : zbe (es ++ [e]) (pvs ++ [pv]) = zbe es pvs ++ za1 e.uid pv recC := by
   unfold zbe
   rw [List.zip_append hlen.symm]
   simp
  rw [this]; exact hrow
 ·rcases List.mem_append.1 hx with hx | hx
  ·exact h.fit x hx
  ·simp at hx; subst hx; exact hfit
 ·by_cases hi : i < es.length
  ·rw [List.getElem?_append_left hi] at hx
   rw [List.getElem?_append_left (by omega)] at hq
   obtain ⟨ys, o1, o2⟩ := h.pars i x q hx hq
   exact ⟨ys, zaj (zah o1 (h1.trans h2)) hg fun b hb hc => row_types h.row o1 ne6023 hc hb, zcd o2⟩
  ·rw [List.getElem?_append_right (by omega)] at hx
   rw [List.getElem?_append_right (by omega)] at hq
   have hi0 : i = es.length := by
    have := (List.getElem?_eq_some_iff.1 hx).1
    simp at this; omega
   subst hi0
   simp at hx; subst hx
   rw [show es.length - pvs.length = 0 by omega] at hq
   simp at hq; subst hq
   exact ⟨xs, zaj (zah hown h2) hg fun b hb hc => by have := hnew b hb; have := (h.row.lt b hc).2; omega, zcd hf⟩
 ·have key : ∀ (i : Nat) (p : Value) (b : Nat), (pvs ++ [pv])[i]? = some p → p.ownBlock = some b → (i < pvs.length ∧ pvs[i]? = some p ∧ b < wr.heap.size) ∨ (i = pvs.length ∧ wr.heap.size ≤ b) := fun i p b hp hb => by
   by_cases hi : i < pvs.length
   ·rw [List.getElem?_append_left hi] at hp
    obtain ⟨x, hx⟩ : ∃ x, es[i]? = some x := ⟨_, List.getElem?_eq_getElem (by omega)⟩
    obtain ⟨ys, o1, _⟩ := h.pars i x p hx hp
    exact .inl ⟨hi, hp, (o1.lt b hb).2⟩
   ·rw [List.getElem?_append_right (by omega)] at hp
    have hi0 : i = pvs.length := by
     have := (List.getElem?_eq_some_iff.1 hp).1
     simp at this; omega
    subst hi0
    simp at hp; subst hp
    exact .inr ⟨rfl, hnew b hb⟩
  rcases key i p b hp hb with ⟨_, h5, h6⟩ | ⟨h5, h6⟩
  ·rcases key j q b hq hc with ⟨_, h7, h8⟩ | ⟨h7, h8⟩
   ·exact h.apart i j p q b h5 h7 hb hc
   ·omega
  ·rcases key j q b hq hc with ⟨_, h7, h8⟩ | ⟨h7, h8⟩
   ·omega
   ·omega
theorem chainCells_rows (es : List Ent) (pvs : List Value) : ∀ r ∈ (es.zip pvs).map (fun p => za1 p.1.uid p.2 recC), r.length = 11 := fun r hr => by
 obtain ⟨p, _, rfl⟩ := List.mem_map.1 hr
 rfl
theorem flatten_at {sz : Nat} : ∀ {rows : List (List Value)} {i j : Nat} {r : List Value} {u : Value}, (∀ r ∈ rows, r.length = sz) → rows[i]? = some r → r[j]? = some u → rows.flatten[i * sz + j]? = some u := fun h1 h2 h3 => flatten_getK h1 h2 h3
theorem row_cell {base g n cap : Nat} {W : World} {es : List Ent} {pvs : List Value} (hrow : W.ownsRow base 87 11 (.slice (some ⟨g, 0, none⟩) n cap) es.length (zbe es pvs)) {i : Nat} {e : Ent} {pv : Value} (he : es[i]? = some e) (hp : pvs[i]? = some pv) : W.cell? ⟨g, i * 11 + 2, none⟩ = some pv ∧ W.frozen? ⟨g, i * 11 + 2, none⟩ = false ∧ g < W.heap.size := by
 have hz : ((es.zip pvs).map fun p => za1 p.1.uid p.2 recC)[i]? = some (za1 e.uid pv recC) := by
  rw [List.getElem?_map, (List.getElem?_zip_eq_some (z := (e, pv))).2 ⟨he, hp⟩]; rfl
 have hc : (zbe es pvs)[i * 11 + 2]? = some pv := flatten_at (chainCells_rows es pvs) hz rfl
 have hi := (List.getElem?_eq_some_iff.1 he).1
 obtain ⟨hx, hv⟩ := hrow
 rcases hv with ⟨hv, _⟩ | ⟨g', cap', cur, hv, hg, hh, hnc, hcm, hcur, htake⟩
 ·cases hv
 ·injection hv with e1 _ e3
  injection e1 with e1
  injection e1 with e1 _
  subst e1 e3
  refine ⟨?_, frozen_of_row _ _ _ _ _ hh, zaf hh⟩
  rw [cell_of_row _ _ _ _ _ _ hh]
  rw [← htake, List.getElem?_take] at hc
  split at hc
  ·simpa using hc
  ·cases hc
theorem Chain.cell {base g n cap : Nat} {W : World} {es : List Ent} {pvs : List Value} (h : Chain base W (.slice (some ⟨g, 0, none⟩) n cap) es pvs) {i : Nat} {e : Ent} {pv : Value} (he : es[i]? = some e) (hp : pvs[i]? = some pv) : W.cell? ⟨g, i * 11 + 2, none⟩ = some pv ∧ W.frozen? ⟨g, i * 11 + 2, none⟩ = false ∧ g < W.heap.size :=
 row_cell h.row he hp
theorem CellsAt.take {w : World} {b o : Nat} {xs : List Value} (h : CellsAt w b o xs) (n : Nat) : CellsAt w b o (xs.take n) := fun i u hi => by
 rw [List.getElem?_take] at hi
 split at hi
 ·exact h i u hi
 ·cases hi
end Go.Proofs.YtebfoimbdljbmaaGreatDoor

/-
  A part of one row behind another row of the call's own. No function of the program. The conditions: none (definitions and lemmas).
-/
namespace Go.Proofs.YtebfoimbdljbmaaGreatDoor
open Go.RowKit
section
variable {α : Type} {R : Rep α} {T : TypeId} {base : Nat} {W W' : World} {v v' : Value} {l : List α}
theorem SrcAt.ext {A : Option Addr} {n : Nat} {xs : List Value} (h : SrcAt W A n xs) (hA : ∀ b o, A = some ⟨b, o, none⟩ → b < W.heap.size) (k : Ext W W') : SrcAt W' A n xs := fun h0 => by
 obtain ⟨b, o, e, hc⟩ := h h0
 exact ⟨b, o, e, hc.alike (S := fun b => b < W.heap.size) (hA b o e) (Alike.of_ext k fun _ h => h)⟩
end
end Go.Proofs.YtebfoimbdljbmaaGreatDoor
