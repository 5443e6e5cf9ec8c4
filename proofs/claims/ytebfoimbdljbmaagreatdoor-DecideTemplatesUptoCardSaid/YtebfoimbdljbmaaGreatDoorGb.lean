/-
  How small a value is, how deep: what the statements' own measures and both Depths come to. The conditions: none beyond each contract's own.
-/
import Derived.Test.YtebfoimbdljbmaaGreatDoorGa
import Derived.Maps.AppendAt
namespace Go.Proofs.YtebfoimbdljbmaaGreatDoor
open Go.RowKit
mutual
def Val.dep : Val → Nat
 | .mk k _ _ _ _ _ items _ => if k = 5 ∨ k = 6 then Val.deps items + 1 else 1
def Val.deps : List Val → Nat
 | [] => 0
 | x :: r => max x.dep (Val.deps r)
end
theorem Val.deps_le {n : Nat} : ∀ {l : List Val}, (∀ x ∈ l, x.dep ≤ n) → Val.deps l ≤ n
 | [], _ => by simp [Val.deps]
 | y :: r, h => by
  have := h y (by simp)
  have := Val.deps_le (l := r) fun x hx => h x (by simp [hx])
  simp only [Val.deps]; omega
theorem Val.size_get {l : List Val} {i : Nat} {x : Val} (h : l[i]? = some x) : SizeOf.sizeOf x < SizeOf.sizeOf l := List.sizeOf_lt_of_mem (List.mem_of_getElem? h)
def SomeInt (P : Int → Prop) (w : World) (e : Ending) (w' : World) : Prop := ∃ n : Int, P n ∧ e = .returned (.int .i64 n) ∧ Ext w w'
end Go.Proofs.YtebfoimbdljbmaaGreatDoor

/-
  Whether two values are the same, field by field: what the reference's comparison comes to. The conditions: none beyond the contract's own.
-/
namespace Go.Proofs.YtebfoimbdljbmaaGreatDoor
open Go.RowKit
def BoxIs (w : World) (g : Nat) (T : TypeId) (a b : Value) : Prop := ∃ v0 v1 v2 v3 v4 v5, w.heap[g]? = some (.cells #[v0, v1, v2, v3, v4, v5, a, b] T (0, 0))
theorem BoxIs.ext {w w' : World} {g : Nat} {T : TypeId} {a b : Value} (h : BoxIs w g T a b) (k : Ext w w') : BoxIs w' g T a b := by
 obtain ⟨v0, v1, v2, v3, v4, v5, h⟩ := h; exact ⟨v0, v1, v2, v3, v4, v5, (k.block _ (zaf h)).trans h⟩
end Go.Proofs.YtebfoimbdljbmaaGreatDoor

/-
  Finding in values: what Same, Holds, Get and the library's searches come to. The conditions: none beyond each contract's own.
-/
namespace Go.Proofs.YtebfoimbdljbmaaGreatDoor
open Go.RowKit
def fidx {α : Type} (p : α → Bool) : List α → Option Nat
 | [] => none
 | x :: r => if p x then some 0 else (fidx p r).map (· + 1)
def pos : Option Nat → Int
 | none => -1
 | some i => i
theorem fidx_some {α : Type} {p : α → Bool} : ∀ {l : List α} {k : Nat} {x : α}, l[k]? = some x → p x = true → (∀ i y, i < k → l[i]? = some y → p y = false) → fidx p l = some k
 | [], _, _, h, _, _ => by simp at h
 | y :: r, 0, x, h, hp, _ => by simp at h; subst h; simp [fidx, hp]
 | y :: r, k + 1, x, h, hp, hall => by
  have h0 := hall 0 y (by omega) rfl
  simp only [fidx, h0, Bool.false_eq_true, if_false]
  rw [fidx_some (l := r) (k := k) (by simpa using h) hp fun i z hi hz => hall (i + 1) z (by omega) (by simpa using hz)]
  rfl
theorem fidx_none {α : Type} {p : α → Bool} : ∀ {l : List α}, (∀ i y, i < l.length → l[i]? = some y → p y = false) → fidx p l = none
 | [], _ => rfl
 | y :: r, hall => by
  have h0 := hall 0 y (by simp) rfl
  simp only [fidx, h0, Bool.false_eq_true, if_false]
  rw [fidx_none (l := r) fun i z hi hz => hall (i + 1) z (by simpa using hi) (by simpa using hz)]
  rfl
theorem fidx_isSome {α : Type} {p : α → Bool} : ∀ l : List α, (fidx p l).isSome = l.any p
 | [] => rfl
 | y :: r => by
  simp only [fidx, List.any_cons]
  split
  ·rename_i hp; simp [hp]
  ·rename_i hp; simp [hp, fidx_isSome r]
def Val.find (v : Val) (s : ByteArray) : Option Nat :=
 if v.kind = 6 then (fidx (fun x : ByteArray => s.toList == x.toList) v.names).bind fun i => if i < v.items.length then some i else none else none
def Val.holds (v x : Val) : Bool := v.kind == 5 && v.items.any fun y => y.ord x == 0
def Val.zero : Val := .mk 0 false 0 ByteArray.empty ByteArray.empty ByteArray.empty [] []
def zeroCells : List Value := [.int .i64 0, .bool false, .int .i64 0, .string ByteArray.empty, .string ByteArray.empty, .string ByteArray.empty, .slice none 0 0, .slice none 0 0]
theorem Val.zero_at (S : Nat → Prop) (w : World) : Val.At S w .zero zeroCells := by
 unfold Val.zero Val.At
 refine ⟨none, 0, .slice none 0 0, rfl, ⟨by unfold I64; omega, by unfold I64; omega, by simp, by simp, by simp⟩, ⟨by simp, by simp, by simp⟩, by simp, ⟨none, 0, rfl, by simp, by simp, by simp, by simp, by simp⟩⟩
end Go.Proofs.YtebfoimbdljbmaaGreatDoor

/-
  Values as they must be, as plain mathematics: what canon comes to, that sets rise, that the order parts what is unlike. No program in sight. The conditions: none (definitions and lemmas).
-/
namespace Go.Proofs.YtebfoimbdljbmaaGreatDoor
open Go.RowKit
section order
variable {α : Type} {c : α → α → Int}
def Strict (c : α → α → Int) (l : List α) : Prop := l.Pairwise fun a b => c a b = -1
def ins (c : α → α → Int) (x : α) : List α → List α
 | [] => [x]
 | y :: r => if c y x = -1 then y :: ins c x r else if c y x = 0 then y :: r else x :: y :: r
def sortU (c : α → α → Int) (l : List α) : List α := l.foldl (fun a x => ins c x a) []
def zbs (c : α → α → Int) : α → List α → List α
 | _, [] => []
 | p, y :: r => if c y p = 0 then zbs c y r else y :: zbs c y r
def dedup (c : α → α → Int) : List α → List α
 | [] => []
 | x :: r => x :: zbs c x r
theorem mem_ins {x y : α} : ∀ {l : List α}, y ∈ ins c x l → y = x ∨ y ∈ l
 | [], h => by simp [ins] at h; exact .inl h
 | z :: r, h => by
  simp only [ins] at h
  split at h
  ·rcases List.mem_cons.1 h with h | h
   ·exact .inr (by simp [h])
   ·rcases mem_ins h with h | h
    ·exact .inl h
    ·exact .inr (by simp [h])
  ·split at h
   ·exact .inr h
   ·rcases List.mem_cons.1 h with h | h
    ·exact .inl h
    ·exact .inr h
theorem mem_ins_old {x y : α} : ∀ {l : List α}, y ∈ l → y ∈ ins c x l
 | z :: r, h => by
  simp only [ins]
  split
  ·rcases List.mem_cons.1 h with h | h
   ·simp [h]
   ·simp [mem_ins_old h]
  ·split
   ·exact h
   ·exact List.mem_cons_of_mem _ h
theorem mem_ins_new {x : α} : ∀ {l : List α}, x ∈ ins c x l ∨ ∃ y ∈ l, c y x = 0
 | [] => by simp [ins]
 | z :: r => by
  simp only [ins]
  split
  ·rcases mem_ins_new (x := x) (l := r) with h | ⟨y, hy, h0⟩
   ·exact .inl (by simp [h])
   ·exact .inr ⟨y, by simp [hy], h0⟩
  ·split
   ·rename_i h0; exact .inr ⟨z, by simp, h0⟩
   ·exact .inl (by simp)
theorem flip1 (hg : ∀ x, GoodAt c x) {x y : α} (h1 : ¬ c y x = -1) (h0 : ¬ c y x = 0) : c x y = -1 := by
 have h2 := (hg y).range x
 have h3 := (hg y).turn x
 omega
theorem ins_strict (hg : ∀ x, GoodAt c x) {x : α} : ∀ {l : List α}, Strict c l → Strict c (ins c x l)
 | [], _ => by simp [ins, Strict]
 | z :: r, h => by
  obtain ⟨hz, hr⟩ := List.pairwise_cons.1 h
  simp only [ins]
  split
  ·rename_i h1
   refine List.pairwise_cons.2 ⟨fun y hy => ?_, ins_strict hg hr⟩
   rcases mem_ins hy with rfl | hy
   ·exact h1
   ·exact hz y hy
  ·split
   ·exact h
   ·rename_i h1 h0
    have hx := flip1 hg h1 h0
    refine List.pairwise_cons.2 ⟨fun y hy => ?_, h⟩
    rcases List.mem_cons.1 hy with rfl | hy
    ·exact hx
    ·exact (hg x).less z y hx (by have := hz y hy; omega)
theorem strict_head (hg : ∀ x, GoodAt c x) {x : α} {r : List α} (h : Strict c (x :: r)) : x ∉ r := fun hx => by
 have := (List.pairwise_cons.1 h).1 x hx
 rw [(hg x).refl] at this; omega
theorem zb8 (hg : ∀ x, GoodAt c x) : ∀ {l m : List α}, Strict c l → Strict c m → (∀ x, x ∈ l ↔ x ∈ m) → l = m
 | [], [], _, _, _ => rfl
 | [], y :: s, _, _, h => by have := (h y).2 (by simp); simp at this
 | x :: r, [], _, _, h => by have := (h x).1 (by simp); simp at this
 | x :: r, y :: s, hl, hm, h => by
  have hxy : x = y := by
   rcases List.mem_cons.1 ((h x).1 (by simp)) with e | hx
   ·exact e
   ·rcases List.mem_cons.1 ((h y).2 (by simp)) with e | hy
    ·exact e.symm
    ·have h1 := (List.pairwise_cons.1 hl).1 y hy
     have h2 := (List.pairwise_cons.1 hm).1 x hx
     have h3 := (hg x).turn y
     omega
  subst hxy
  rw [zb8 hg (List.pairwise_cons.1 hl).2 (List.pairwise_cons.1 hm).2 fun z => ?_]
  have hz := h z
  simp only [List.mem_cons] at hz
  by_cases hzx : z = x
  ·subst hzx
   exact ⟨fun h1 => absurd h1 (strict_head hg hl), fun h1 => absurd h1 (strict_head hg hm)⟩
  ·simpa [hzx] using hz
theorem foldl_ins_strict (hg : ∀ x, GoodAt c x) : ∀ (l a : List α), Strict c a → Strict c (l.foldl (fun a x => ins c x a) a)
 | [], _, h => h
 | _ :: r, _, h => foldl_ins_strict hg r _ (ins_strict hg h)
theorem zbv (hg : ∀ x, GoodAt c x) (l : List α) : Strict c (sortU c l) := foldl_ins_strict hg l [] List.Pairwise.nil
theorem foldl_ins_mem {P : α → Prop} (he : ∀ x y, P x → P y → c x y = 0 → x = y) : ∀ (l a : List α), (∀ x ∈ l, P x) → (∀ x ∈ a, P x) → ∀ y, y ∈ l.foldl (fun a x => ins c x a) a ↔ y ∈ l ∨ y ∈ a
 | [], a, _, _, y => by simp
 | x :: r, a, hl, ha, y => by
  rw [List.foldl_cons, foldl_ins_mem he r _ (fun z hz => hl z (by simp [hz])) (fun z hz => by
   rcases mem_ins hz with rfl | hz
   ·exact hl _ (by simp)
   ·exact ha z hz)]
  simp only [List.mem_cons]
  constructor
  ·rintro (h | h)
   ·exact .inl (.inr h)
   ·rcases mem_ins h with h | h
    ·exact .inl (.inl h)
    ·exact .inr h
  ·rintro ((h | h) | h)
   ·subst h
    rcases mem_ins_new (c := c) (x := y) (l := a) with h | ⟨z, hz, h0⟩
    ·exact .inr h
    ·have := he z y (ha z hz) (hl y (by simp)) h0
     subst this; exact .inr (mem_ins_old hz)
   ·exact .inl h
   ·exact .inr (mem_ins_old h)
theorem sortU_mem {P : α → Prop} (he : ∀ x y, P x → P y → c x y = 0 → x = y) {l : List α} (hl : ∀ x ∈ l, P x) (y : α) : y ∈ sortU c l ↔ y ∈ l := by
 rw [sortU, foldl_ins_mem he l [] hl (by simp)]; simp
end order
/-! ### values as they must be -/
def empty : ByteArray := ByteArray.empty
def cmpN (p q : ByteArray × Val) : Int := cmpS p.1 q.1
def record (names : List ByteArray) (l : List Val) : Val × Int :=
 if names.Nodup then (.mk 6 false 0 empty empty empty ((sortU cmpN (names.zip l)).map (·.2)) ((sortU cmpN (names.zip l)).map (·.1)), 0) else (.zero, 13)
mutual
def Val.can : Val → Val × Int
 | .mk k bo n t ut ui items names =>
  if k = 1 then (.mk 1 bo 0 empty empty empty [] [], 0) else
  if k = 2 then (.mk 2 false n empty empty empty [] [], 0) else
  if k = 3 then (.mk 3 false 0 t empty empty [] [], 0) else
  if k = 4 then (.mk 4 false 0 empty ut ui [] [], 0) else
  if k = 5 then
   if (Val.cans items).2 ≠ 0 then (.zero, (Val.cans items).2) else
   if 4096 < items.length then (.zero, 12) else
   (.mk 5 false 0 empty empty empty (sortU Val.ord (Val.cans items).1) [], 0) else
  if k = 6 then
   if names.length ≠ items.length then (.zero, 1) else
   if (Val.cans items).2 ≠ 0 then (.zero, (Val.cans items).2) else
   if 4096 < items.length then (.zero, 12) else record names (Val.cans items).1
  else (.zero, 1)
def Val.cans : List Val → List Val × Int
 | [] => ([], 0)
 | x :: r => if x.can.2 ≠ 0 then ([], x.can.2) else if (Val.cans r).2 ≠ 0 then ([], (Val.cans r).2) else (x.can.1 :: (Val.cans r).1, 0)
end
def Val.canon (v : Val) : Val × Int := if 50 < v.dep then (.zero, 11) else v.can
mutual
def Val.Is : Val → Prop
 | .mk k bo n t ut ui items names =>
  (k = 1 ∧ n = 0 ∧ t = empty ∧ ut = empty ∧ ui = empty ∧ items = [] ∧ names = []) ∨
  (k = 2 ∧ bo = false ∧ t = empty ∧ ut = empty ∧ ui = empty ∧ items = [] ∧ names = []) ∨
  (k = 3 ∧ bo = false ∧ n = 0 ∧ ut = empty ∧ ui = empty ∧ items = [] ∧ names = []) ∨
  (k = 4 ∧ bo = false ∧ n = 0 ∧ t = empty ∧ items = [] ∧ names = []) ∨
  (k = 5 ∧ bo = false ∧ n = 0 ∧ t = empty ∧ ut = empty ∧ ui = empty ∧ names = [] ∧ Strict Val.ord items ∧ items.length ≤ 4096 ∧ Val.Are items) ∨
  (k = 6 ∧ bo = false ∧ n = 0 ∧ t = empty ∧ ut = empty ∧ ui = empty ∧ names.length = items.length ∧ Strict cmpS names ∧ items.length ≤ 4096 ∧ Val.Are items)
def Val.Are : List Val → Prop
 | [] => True
 | x :: r => x.Is ∧ Val.Are r
end
theorem Val.are_iff : ∀ l : List Val, Val.Are l ↔ ∀ x ∈ l, x.Is
 | [] => by simp [Val.Are]
 | x :: r => by simp [Val.Are, Val.are_iff r]
end Go.Proofs.YtebfoimbdljbmaaGreatDoor

/-
  Rows that a call has made itself: appended to, read as values. The conditions: none (definitions and lemmas).
-/
namespace Go.Proofs.YtebfoimbdljbmaaGreatDoor
open Go.RowKit
theorem cell_add {w : World} {b o : Nat} {cs : List Value} (h : CellsAt w b o cs) : ∀ j u, cs[j]? = some u → w.cell? ((⟨b, o, none⟩ : Addr).add j) = some u := fun j u hj => by
 have := h j u hj
 unfold Addr.add
 by_cases h0 : j = 0
 ·subst h0; simpa using this
 ·simpa [h0] using this
structure GrownBy (w w' : World) (row : Option Nat) : Prop extends w.grownBy w' row where
 drawn : w.drawn ≤ w'.drawn
def Flat (S : Nat → Prop) (w : World) : List Val → List Value → Prop
 | [], xs => xs = []
 | v :: r, xs => ∃ cs ys, xs = cs ++ ys ∧ Val.At S w v cs ∧ Flat S w r ys
theorem Flat.snoc {S : Nat → Prop} {w : World} {x : Val} {cs : List Value} (hx : Val.At S w x cs) : ∀ {l : List Val} {xs : List Value}, Flat S w l xs → Flat S w (l ++ [x]) (xs ++ cs)
 | [], xs, h => by
  simp only [Flat] at h; subst h
  exact ⟨cs, [], by simp, hx, rfl⟩
 | v :: r, xs, h => by
  obtain ⟨c, ys, rfl, hv, hr⟩ := h
  exact ⟨c, ys ++ cs, by simp, hv, Flat.snoc hx hr⟩
theorem Flat.alike {S : Nat → Prop} {w w' : World} (k : Alike S w w') : ∀ {l : List Val} {xs : List Value}, Flat S w l xs → Flat S w' l xs
 | [], _, h => h
 | _ :: _, _, ⟨c, ys, e, hv, hr⟩ => ⟨c, ys, e, hv.alike k, Flat.alike k hr⟩
theorem Flat.mono {S S' : Nat → Prop} {w : World} (k : ∀ b, S b → S' b) : ∀ {l : List Val} {xs : List Value}, Flat S w l xs → Flat S' w l xs
 | [], _, h => h
 | _ :: _, _, ⟨c, ys, e, hv, hr⟩ => ⟨c, ys, e, hv.mono k, Flat.mono k hr⟩
theorem Flat.length {S : Nat → Prop} {w : World} : ∀ {l : List Val} {xs : List Value}, Flat S w l xs → xs.length = l.length * 8
 | [], _, h => by simp only [Flat] at h; subst h; rfl
 | _ :: r, _, ⟨c, ys, e, hv, hr⟩ => by
  subst e
  have := hv.length
  have := Flat.length hr
  simp; omega
theorem Flat.get {S : Nat → Prop} {w : World} : ∀ {l : List Val} {xs : List Value} {i : Nat} {x : Val}, Flat S w l xs → l[i]? = some x → ∃ cs, cs.length = 8 ∧ Val.At S w x cs ∧ ∀ j v, cs[j]? = some v → xs[i * 8 + j]? = some v
 | [], _, _, _, _, h => by simp at h
 | v :: r, _, 0, x, ⟨c, ys, e, hv, hr⟩, h => by
  simp at h; subst h; subst e
  refine ⟨c, hv.length, hv, fun j u hj => ?_⟩
  rw [List.getElem?_append_left (by simpa using (List.getElem?_eq_some_iff.1 hj).1)]
  simpa using hj
 | v :: r, _, i + 1, x, ⟨c, ys, e, hv, hr⟩, h => by
  subst e
  obtain ⟨cs, h1, h2, h3⟩ := Flat.get hr (i := i) (x := x) (by simpa using h)
  refine ⟨cs, h1, h2, fun j u hj => ?_⟩
  have := hv.length
  rw [List.getElem?_append_right (by omega), show (i + 1) * 8 + j - c.length = i * 8 + j from by omega]
  exact h3 j u hj
def Fresh (base : Nat) (w : World) (b : Nat) : Prop := base ≤ b ∧ b < w.heap.size
theorem Fresh.lt {base : Nat} {w : World} : ∀ b, Fresh base w b → b < w.heap.size := fun _ h => h.2
theorem Fresh.mono {base base' : Nat} {w w' : World} (h1 : base' ≤ base) (h2 : w.heap.size ≤ w'.heap.size) : ∀ b, Fresh base w b → Fresh base' w' b := fun _ h => ⟨by have := h.1; omega, by have := h.2; omega⟩
theorem zah {w w' : World} {base : Nat} {e : TypeId} {size : Nat} {v : Value} {n : Nat} {xs : List Value} (h : w.ownsRow base e size v n xs) (k : Ext w w') : w'.ownsRow base e size v n xs := by
 obtain ⟨h1, h2⟩ := h
 refine ⟨h1, ?_⟩
 rcases h2 with h2 | ⟨g, cap, cur, hv, hg, hh, r⟩
 ·exact .inl h2
 ·exact .inr ⟨g, cap, cur, hv, hg, (k.block _ (zaf hh)).trans hh, r⟩
theorem cellsAt_new {w : World} {b : Nat} (T : TypeId) (cs : List Value) (hb : b = w.heap.size) : CellsAt (w.alloc (.cells cs.toArray T)) b 0 cs := fun j v hj => by
 subst hb
 rw [cell_of_row _ _ _ _ _ _ (heap_alloc_new w _)]; simpa using hj
theorem Val.At.one {S : Nat → Prop} {w : World} {v : Val} {cs : List Value} (h : Val.At S w v cs) : ∀ u ∈ cs, u.oneCell' = true := by
 obtain ⟨k, b, n, t, ut, ui, A, l, c, A2, l2, c2, rfl⟩ := h.shape
 intro u hu
 simp at hu
 rcases hu with rfl | rfl | rfl | rfl | rfl | rfl | rfl | rfl <;> rfl
end Go.Proofs.YtebfoimbdljbmaaGreatDoor
