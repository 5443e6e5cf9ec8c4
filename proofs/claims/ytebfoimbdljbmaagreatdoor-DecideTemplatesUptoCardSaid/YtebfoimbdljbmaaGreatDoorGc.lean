/-
  What the program's canon of a row of values comes to. The conditions: the contract of canon for its members.
-/
import Derived.Test.YtebfoimbdljbmaaGreatDoorGb
import Derived.Maps.RangeWalk
import Derived.DeepKeys4
import Derived.Laws.CopyRow
import Derived.Test.YtebfoimbdljbmaaGreatDoorGa
namespace Go.Proofs.YtebfoimbdljbmaaGreatDoor
open Go.RowKit
theorem zbi {α : Type} {l : List α} {k : Nat} {x : α} (h : l[k]? = some x) : l.take (k + 1) = l.take k ++ [x] := by
 obtain ⟨h1, rfl⟩ := List.getElem?_eq_some_iff.1 h
 exact List.take_succ_eq_append_getElem h1
end Go.Proofs.YtebfoimbdljbmaaGreatDoor

/-
  Entities as plain data: the order of names, what is above what, and what the taking away of those that nobody is below comes to. No program in sight. The conditions: none (definitions and lemmas).
-/
namespace Go.Proofs.YtebfoimbdljbmaaGreatDoor
open Go.RowKit
abbrev Uid := ByteArray × ByteArray
def ordU (a b : Uid) : Int := lex2 (cmpS a.1 b.1) (cmpS a.2 b.2)
theorem GoodAt.ordU (a : Uid) : GoodAt ordU a := GoodAt.both (GoodAt.cmpS _) (GoodAt.cmpS _)
theorem ordU_eq {a b : Uid} (h : ordU a b = 0) : a = b := by
 unfold ordU lex2 at h
 split at h
 ·rename_i h1; exact Prod.ext (cmpS_eq h1) (cmpS_eq h)
 ·rename_i h1; exact absurd h h1
structure Ent where
 uid : Uid
 ps : List Uid
 av : Val
def idx : List Uid → Uid → Option Nat
 | [], _ => none
 | x :: r, u => if x = u then some 0 else (idx r u).map (· + 1)
theorem idx_none {u : Uid} : ∀ {l : List Uid}, idx l u = none ↔ u ∉ l
 | [] => by simp [idx]
 | x :: r => by
  simp only [idx]
  by_cases h : x = u
  ·simp [h]
  ·rw [if_neg h]
   simp [idx_none (l := r), Ne.symm h]
theorem idx_get {u : Uid} : ∀ {l : List Uid} {i : Nat}, idx l u = some i → l[i]? = some u
 | [], _, h => by simp [idx] at h
 | x :: r, i, h => by
  simp only [idx] at h
  by_cases hx : x = u
  ·rw [if_pos hx] at h
   obtain rfl := Option.some.inj h
   simp [hx]
  ·rw [if_neg hx] at h
   obtain ⟨j, hj, rfl⟩ := Option.map_eq_some_iff.1 h
   simpa using idx_get hj
theorem idx_lt {u : Uid} {l : List Uid} {i : Nat} (h : idx l u = some i) : i < l.length := (List.getElem?_eq_some_iff.1 (idx_get h)).1
theorem zb6 {u : Uid} : ∀ {l : List Uid} {i : Nat}, l.Nodup → l[i]? = some u → idx l u = some i
 | [], _, _, h => by simp at h
 | x :: r, 0, _, h => by simp at h; simp [idx, h]
 | x :: r, i + 1, hn, h => by
  have h' : r[i]? = some u := by simpa using h
  have hx : x ≠ u := fun e => (List.nodup_cons.1 hn).1 (e ▸ List.mem_of_getElem? h')
  simp [idx, hx, zb6 (List.nodup_cons.1 hn).2 h']
theorem idx_mem {u : Uid} {l : List Uid} : u ∈ l ↔ ∃ i, idx l u = some i := by
 constructor
 ·intro h
  cases hi : idx l u with
  | none => exact absurd h (idx_none.1 hi)
  | some i => exact ⟨i, rfl⟩
 ·rintro ⟨i, hi⟩; exact List.mem_of_getElem? (idx_get hi)
def Above (l : List Ent) (u v : Uid) : Prop := ∃ e ∈ l, e.uid = u ∧ v ∈ e.ps ∧ v ∈ l.map Ent.uid
def Rounded (l : List Ent) : Prop := ∃ u ∈ l.map Ent.uid, ¬ Acc (Above l) u
theorem Above.congr {l m : List Ent} (h : ∀ e ∈ l, ∃ f ∈ m, f.uid = e.uid ∧ ∀ p, p ∈ e.ps → p ∈ f.ps) {u v : Uid} (hu : Above l u v) : Above m u v := by
 obtain ⟨e, he, rfl, hv, hm⟩ := hu
 obtain ⟨f, hf, hfu, hp⟩ := h e he
 refine ⟨f, hf, hfu, hp v hv, ?_⟩
 obtain ⟨x, hx, rfl⟩ := List.mem_map.1 hm
 obtain ⟨y, hy, hyu, _⟩ := h x hx
 exact List.mem_map.2 ⟨y, hy, hyu⟩
theorem Acc.mono {α : Type} {r s : α → α → Prop} (h : ∀ a b, r a b → s a b) {a : α} (k : Acc s a) : Acc r a := by
 induction k with
 | intro x _ ih => exact ⟨x, fun y hy => ih y (h y x hy)⟩
theorem Rounded.congr {l m : List Ent} (h : ∀ e ∈ l, ∃ f ∈ m, f.uid = e.uid ∧ ∀ p, p ∈ e.ps → p ∈ f.ps) (hr : Rounded l) : Rounded m := by
 obtain ⟨u, hu, ha⟩ := hr
 refine ⟨u, ?_, fun k => ha (Acc.mono (fun _ _ => Above.congr h) k)⟩
 obtain ⟨x, hx, rfl⟩ := List.mem_map.1 hu
 obtain ⟨y, hy, hyu, _⟩ := h x hx
 exact List.mem_map.2 ⟨y, hy, hyu⟩
def oneE (us : List Uid) (e : Ent) : Ent × Int :=
 if e.av.kind ≠ 6 then (⟨e.uid, [], .zero⟩, 1) else if e.av.canon.2 ≠ 0 then (⟨e.uid, [], .zero⟩, e.av.canon.2) else if e.ps.all (fun p => (idx us p).isSome) then (⟨e.uid, sortU ordU e.ps, e.av.canon.1⟩, 0) else (⟨e.uid, [], .zero⟩, 20)
def onesE (us : List Uid) : List Ent → List Ent × Int
 | [] => ([], 0)
 | e :: r => if (oneE us e).2 ≠ 0 then ([], (oneE us e).2) else if (onesE us r).2 ≠ 0 then ([], (onesE us r).2) else ((oneE us e).1 :: (onesE us r).1, 0)
def cmpE (a b : Ent) : Int := ordU a.uid b.uid
theorem GoodAt.cmpE (a : Ent) : GoodAt cmpE a := GoodAt.part (c := Go.Proofs.YtebfoimbdljbmaaGreatDoor.ordU) Ent.uid (GoodAt.ordU a.uid)
open Classical in
noncomputable def canonE (l : List Ent) : List Ent × Int :=
 if 4096 < l.length then ([], 12) else if ¬ (l.map Ent.uid).Nodup then ([], 13) else if (onesE (l.map Ent.uid) l).2 ≠ 0 then ([], (onesE (l.map Ent.uid) l).2) else
 if Rounded l then ([], 21) else (sortU cmpE (onesE (l.map Ent.uid) l).1, 0)
/-! ### numbered things, and which of them are above which -/
section kahn
variable (par : Nat → List Nat)
def cntOut (skip : Nat → Bool) (k : Nat) : Nat → Nat
 | 0 => 0
 | m + 1 => cntOut skip k m + if skip m then 0 else (par m).count k
variable {par}
variable (par)
def Topo (n : Nat) : List Nat → Prop
 | [] => True
 | k :: R => (∀ i, i < n → k ∈ par i → i ∈ R) ∧ Topo n R
structure Mid3 (n : Nat) (R L rest : List Nat) (b : Nat → Nat) : Prop where
 nodup : (R ++ L).Nodup
 lt : ∀ k, k ∈ R ++ L → k < n
 topo : Topo par n R
 zero : ∀ k, k < n → (b k = 0 ↔ k ∈ R ++ L)
 sum : ∀ k, k < n → b k = cntOut par (fun i => decide (i ∈ R)) k n + rest.count k
variable {par}
theorem Mid3.told {n : Nat} {R L rest : List Nat} {k : Nat} {b : Nat → Nat} (h : Mid3 par n R L (k :: rest) b) (hk : k < n) : 0 < b k ∧ k ∉ R ++ L := by
 have h1 := h.sum k hk
 have h2 : 0 < b k := by simp at h1; omega
 exact ⟨h2, fun hm => by have := (h.zero k hk).2 hm; omega⟩
theorem Mid3.more {n : Nat} {R L rest : List Nat} {k : Nat} {b : Nat → Nat} (h : Mid3 par n R L (k :: rest) b) (hk : k < n) (h1 : b k ≠ 1) : Mid3 par n R L rest fun j => if j = k then b k - 1 else b j := by
 obtain ⟨h2, h3⟩ := h.told hk
 refine ⟨h.nodup, h.lt, h.topo, fun j hj => ?_, fun j hj => ?_⟩
 ·by_cases he : j = k
  ·subst he
   simp only [if_pos]
   constructor
   ·intro h4; omega
   ·intro h4; exact absurd h4 h3
  ·rw [if_neg he]; exact h.zero j hj
 ·have h4 := h.sum j hj
  by_cases he : j = k
  ·subst he
   simp at h4 ⊢; omega
  ·rw [if_neg he, h4, List.count_cons_of_ne (Ne.symm he)]
theorem zbr {α : Type} : ∀ {l m : List α}, l.Nodup → (∀ x ∈ l, x ∈ m) → l.length ≤ m.length
 | [], _, _, _ => by simp
 | x :: r, m, hn, h => by
  obtain ⟨h1, h2⟩ := List.nodup_cons.1 hn
  obtain ⟨s, t, rfl⟩ := List.append_of_mem (h x (by simp))
  have := zbr (l := r) (m := s ++ t) h2 fun y hy => by
   have := h y (by simp [hy])
   have hne : y ≠ x := fun e => h1 (e ▸ hy)
   simpa [hne] using this
  simp at this ⊢; omega
end kahn
/-! ### by number, and by name -/
def parN (l : List Ent) (i : Nat) : List Nat := match l[i]? with
 | some e => e.ps.filterMap (idx (l.map Ent.uid))
 | none => []
theorem parN_of {l : List Ent} {i : Nat} {e : Ent} (h : l[i]? = some e) : parN l i = e.ps.filterMap (idx (l.map Ent.uid)) := by simp [parN, h]
theorem parN_lt {l : List Ent} {i k : Nat} (h : k ∈ parN l i) : k < l.length := by
 unfold parN at h
 split at h
 ·obtain ⟨p, _, hp⟩ := List.mem_filterMap.1 h
  simpa using idx_lt hp
 ·simp at h
end Go.Proofs.YtebfoimbdljbmaaGreatDoor

/-
  Maps from entities' names to numbers: what one holds, name by name; ranging over one. The conditions: none (definitions and lemmas).
-/
namespace Go.Proofs.YtebfoimbdljbmaaGreatDoor
open Go.RowKit Go.Maps
set_option maxRecDepth 100000
theorem Tryz.wideU : (match Tryz.prog.underlying 23 with | some (.array _ _) | some (.struct _) => true | _ => false) = true := by rw [Tryz.underlying23]
theorem Tryz.laidU : laidOutB Tryz.prog = true := by kernel_rfl
theorem Tryz.keyU : Tryz.prog.keyType 23 = true := by kernel_rfl
theorem Tryz.lawU : Keyed Tryz.prog 23 := Keyed.of_law (deep_law_laid Tryz.laidU (m := 2) (by omega) (of_decide_eq_true (by kernel_rfl)) (by kernel_rfl) Tryz.wideU)
theorem Tryz.zeroI (w : World) : (zeroValue 3).run Tryz.prog w = .ok (.int .i64 0) w := by kernel_rfl
theorem Tryz.cellsU : Tryz.prog.cellsOf 23 = 2 := by kernel_rfl
theorem Tryz.cellsS : Tryz.prog.cellsOf 9 = 1 := by kernel_rfl
theorem Tryz.typesU : ∃ n, Tryz.prog.types.size + 1 = n + 2 := ⟨Tryz.prog.types.size - 1, by have : 1 ≤ Tryz.prog.types.size := of_decide_eq_true (by kernel_rfl); omega⟩
def zaw (u : Uid) : Prop := u.1.size ≤ maxLen ∧ u.2.size ≤ maxLen
def valU (u : Uid) : Value := .agg #[.string u.1, .string u.2]
def litU (u : Uid) : Lit := .string (keyBytes [.string u.1.data.toList, .string u.2.data.toList])
theorem keyU_lits (a b : Value) (n : Nat) : Tryz.prog.keyLits (n + 2) 23 [a, b] = ((Tryz.prog.keyLits (n + 1) 9 [a]).bind fun x => (Tryz.prog.keyLits (n + 1) 9 [b]).map fun y => x ++ y) := by
 conv => lhs; unfold Program.keyLits
 simp only [Tryz.underlying23, Tryz.cellsU]
 cases h1 : Tryz.prog.keyLits (n + 1) 9 [a] <;> cases h2 : Tryz.prog.keyLits (n + 1) 9 [b] <;> simp [Tryz.cellsS, h1, h2]
theorem zb1 {u : Uid} (h : zaw u) : keyOf Tryz.prog 23 (valU u) = some (litU u) := by
 obtain ⟨n, hn⟩ := Tryz.typesU
 have hs : ∀ s : ByteArray, s.size ≤ maxLen → Tryz.prog.keyLits (n + 1) 9 [.string s] = some [.string s.data.toList] := fun s hs => by
  unfold Program.keyLits
  simp [Tryz.underlying9, hs]
 unfold keyOf valU litU
 simp only [Tryz.underlying23, Tryz.keyU, Value.formed, Tryz.cellsU, hn]
 simp only [Value.cells, keyU_lits, hs _ h.1, hs _ h.2]
 rfl
theorem litU_inj {u v : Uid} (hu : zaw u) (hv : zaw v) (h : litU u = litU v) : u = v := by
 have h1 := zb1 hu
 have h2 := zb1 hv
 rw [h] at h1
 have := Tryz.lawU.inj h1 h2
 unfold valU at this
 cases u; cases v
 injection this with this
 injection this with this
 injection this with a b
 injection a with a
 injection b with b
 injection b with b
 exact Prod.ext a b
structure ReadsU (D : DataW Unit) (m : Uid → Option Nat) : Prop where
 has : ∀ u, zaw u → Maps.has D (litU u) = (m u).isSome
 at' : ∀ u i, zaw u → m u = some i → D.atKey (litU u) (.lit (.int .i64 0)) = .lit (.int .i64 i)
 keys : ∀ kl, Maps.has D kl = true → ∃ u, zaw u ∧ kl = litU u
def MapU (w : World) (b : Nat) (m : Uid → Option Nat) (cnt : Nat) : Prop :=
 ∃ D n, w.ownsMap Tryz.prog 23 (plainElem Tryz.prog 3) b n D ∧ n ≤ 1073741824 ∧ ReadsU D m ∧ Maps.size D = cnt ∧ (∀ u i, m u = some i → i ≤ 1073741824)
theorem MapU.block {w w' : World} {b : Nat} {m : Uid → Option Nat} {cnt : Nat} (h : MapU w b m cnt) (hb : w'.heap[b]? = w.heap[b]?) : MapU w' b m cnt := by
 obtain ⟨D, n, ⟨es, clock, h1, h2⟩, h3⟩ := h
 exact ⟨D, n, ⟨es, clock, hb.trans h1, h2⟩, h3⟩
theorem MapU.lt {w : World} {b : Nat} {m : Uid → Option Nat} {cnt : Nat} (h : MapU w b m cnt) : b < w.heap.size := by
 obtain ⟨D, n, h1, _⟩ := h; exact h1.lt
theorem MapU.ext {w w' : World} {b : Nat} {m : Uid → Option Nat} {cnt : Nat} (h : MapU w b m cnt) (k : Ext w w') : MapU w' b m cnt := h.block (k.block _ h.lt)
theorem MapU.congr {w : World} {b : Nat} {m m' : Uid → Option Nat} {cnt : Nat} (h : MapU w b m cnt) (he : ∀ u, m u = m' u) : MapU w b m' cnt := by
 have : m = m' := funext he
 rw [← this]; exact h
theorem MapU.isMap {w : World} {b : Nat} {m : Uid → Option Nat} {cnt : Nat} (h : MapU w b m cnt) : ∃ es clock, w.heap[b]? = some (.map es clock) := by
 obtain ⟨D, n, ⟨es, clock, h1, _⟩, _⟩ := h; exact ⟨es, clock, h1⟩
section
variable {ops : Array Oper} {rest : List Oper} {o : Oper} {a : Act} {w : World} {Q : Exit → Act → World → Prop}
def RangeU (w : World) (b r : Nat) (m : Uid → Option Nat) (left : Uid → Bool) (cnt : Nat) : Prop :=
 ∃ D n lf, w.ranges Tryz.prog 23 (plainElem Tryz.prog 3) b r n D lf cnt ∧ ReadsU D m ∧ (∀ u i, m u = some i → i ≤ 1073741824) ∧ (∀ u, zaw u → lf (litU u) = left u) ∧ ∀ kl, lf kl = true → ∃ u, zaw u ∧ kl = litU u
theorem RangeU.block {w w' : World} {b r : Nat} {m : Uid → Option Nat} {left : Uid → Bool} {cnt : Nat} (h : RangeU w b r m left cnt) (hb : w'.heap[b]? = w.heap[b]?) (hr : w'.heap[r]? = w.heap[r]?) : RangeU w' b r m left cnt := by
 obtain ⟨D, n, lf, ⟨es, clock, since, seen, c0, h1, h2, h3, h4, h5, h6⟩, h7⟩ := h
 exact ⟨D, n, lf, ⟨es, clock, since, seen, c0, hb.trans h1, h2, h3, h4, hr.trans h5, h6⟩, h7⟩
theorem RangeU.lt {w : World} {b r : Nat} {m : Uid → Option Nat} {left : Uid → Bool} {cnt : Nat} (h : RangeU w b r m left cnt) : b < w.heap.size ∧ r < w.heap.size := by
 obtain ⟨D, n, lf, h1, _⟩ := h; exact ⟨h1.owns.lt, h1.lt⟩
theorem RangeU.ext {w w' : World} {b r : Nat} {m : Uid → Option Nat} {left : Uid → Bool} {cnt : Nat} (h : RangeU w b r m left cnt) (k : Ext w w') : RangeU w' b r m left cnt := h.block (k.block _ h.lt.1) (k.block _ h.lt.2)
theorem RangeU.isIter {w : World} {b r : Nat} {m : Uid → Option Nat} {left : Uid → Bool} {cnt : Nat} (h : RangeU w b r m left cnt) : ∃ x y z, w.heap[r]? = some (.mapIter (some b) x y z) := by
 obtain ⟨D, n, lf, ⟨es, clock, since, seen, c0, h1, h2, h3, h4, h5, h6⟩, h7⟩ := h
 exact ⟨_, _, _, h5⟩
theorem RangeU.left_eq {w : World} {b r : Nat} {m : Uid → Option Nat} {left : Uid → Bool} {cnt : Nat} (h : RangeU w b r m left cnt) : w.rangeLeft b r = cnt := by
 obtain ⟨D, n, lf, h1, _⟩ := h; exact h1.left_eq
end
end Go.Proofs.YtebfoimbdljbmaaGreatDoor

/-
  The library's compaction of a row of values that a call has made itself. The conditions: none beyond the contract's own.
-/
namespace Go.Proofs.YtebfoimbdljbmaaGreatDoor
open Go.RowKit
/-! ### rows of eight cells -/
theorem flatten_set : ∀ {rows : List (List Value)} {i : Nat} {cs : List Value}, (∀ r ∈ rows, r.length = 8) → i < rows.length → cs.length = 8 →
  rows.flatten.take (i * 8) ++ cs ++ rows.flatten.drop (i * 8 + 8) = (rows.set i cs).flatten
 | [], _, _, _, h, _ => by simp at h
 | r :: rs, 0, cs, hl, _, hc => by
  have h8 := hl r (by simp)
  simp [h8]
 | r :: rs, i + 1, cs, hl, h, hc => by
  have h8 := hl r (by simp)
  have ih := flatten_set (rows := rs) (i := i) (cs := cs) (fun x hx => hl x (by simp [hx])) (by simpa using h) hc
  rw [List.set_cons_succ, List.flatten_cons, List.flatten_cons, ← ih]
  rw [List.take_append, List.drop_append, List.take_of_length_le (by omega), List.drop_eq_nil_iff.2 (by omega), show (i + 1) * 8 - r.length = i * 8 by omega, show (i + 1) * 8 + 8 - r.length = i * 8 + 8 by omega]
  simp
/-! ### what compaction comes to, one element more -/
theorem dedupFrom_snoc {α : Type} {c : α → α → Int} {y : α} : ∀ (l : List α) (p : α), zbs c p (l ++ [y]) = zbs c p l ++ (if c y ((p :: l).getLast (by simp)) = 0 then [] else [y])
 | [], p => by simp only [List.nil_append, zbs, List.getLast_singleton]; rfl
 | z :: r, p => by
  simp only [List.cons_append, zbs]
  have h := dedupFrom_snoc (c := c) (y := y) r z
  rw [List.getLast_cons (by simp)]
  split
  ·rw [h]
  ·rw [h]; rfl
theorem dedup_snoc {α : Type} {c : α → α → Int} {y q : α} {l : List α} (hq : l.getLast? = some q) : dedup c (l ++ [y]) = dedup c l ++ (if c y q = 0 then [] else [y]) := by
 cases l with
 | nil => simp at hq
 | cons x r =>
  rw [List.getLast?_eq_some_getLast (by simp)] at hq
  injection hq with hq
  simp only [List.cons_append, dedup, dedupFrom_snoc, hq]
theorem za9 {α : Type} {c : α → α → Int} {l : List α} {k : Nat} {x y : α} (hx : l[k]? = some x) (hy : l[k + 1]? = some y) : dedup c (l.take (k + 1 + 1)) = dedup c (l.take (k + 1)) ++ (if c y x = 0 then [] else [y]) := by
 rw [zbi hy, dedup_snoc (q := x)]
 rw [zbi hx]; simp
/-! ### worlds -/
theorem GrownBy.trans {a b c : World} {r : Option Nat} (h : GrownBy a b r) (k : GrownBy b c r) : GrownBy a c r :=
 ⟨⟨k.os.trans h.os, k.tape.trans h.tape, k.output.trans h.output, Nat.le_trans h.size k.size, fun i hi hne => (k.block i (Nat.lt_of_lt_of_le hi h.size) hne).trans (h.block i hi hne)⟩, Nat.le_trans h.drawn k.drawn⟩
theorem GrownBy.of_ext {a b : World} (r : Option Nat) (h : Ext a b) : GrownBy a b r := ⟨⟨h.os, h.tape, h.output, h.size, fun i hi _ => h.block i hi⟩, h.drawn⟩
theorem GrownBy.setRow (w : World) (g : Nat) (cs : Array Value) : GrownBy w (w.setRow g cs) (some g) :=
 ⟨⟨rfl, rfl, rfl, by simp [World.setRow], fun i _ hne => by
  simp only [World.setRow, Array.getElem?_modify]
  rw [if_neg (fun e => hne (by rw [e]))]⟩, Nat.le_refl _⟩
theorem zbq {w : World} {g : Nat} {cur : Array Value} {T : TypeId} (h : w.heap[g]? = some (.cells cur T (0, 0))) (cs : Array Value) : (w.setRow g cs).heap[g]? = some (.cells cs T (0, 0)) := by
 simp [World.setRow, Array.getElem?_modify, h]
theorem zau {P : Program} {ops : Array Oper} {rest : List Oper} {op : Oper} {a : Act} {w : World} {Q : Exit → Act → World → Prop} (hgd : op.guard = none) (ty : TypeId) (x y : Operand) (ho : op.op = .store ty x y)
  (g off : Nat) (hx : a.eval x = .pointer (some ⟨g, off, none⟩)) (cs : List Value) (hy : a.eval y = .agg cs.toArray) {n : Nat} (hz : ∀ w, (Go.sizeOf ty).run P w = .ok n w) (hn : cs.length = n)
  (T : TypeId) (cur : Array Value) (hg : w.heap[g]? = some (.cells cur T (0, 0))) (hl : off + cs.length ≤ cur.size) (h1 : ∀ v ∈ cs, v.oneCell' = true)
  (hk : wpList P ops Q rest (a.put op.dst undef) (w.setRow g (cur.toList.take off ++ cs ++ cur.toList.drop (off + cs.length)).toArray)) : wpList P ops Q (op :: rest) a w :=
 wpList_plain hgd fun K hK => by
  have hst := run_storeCells_at (P := P) g off T cs 0 cur w hg (by simpa using hl) h1
  simp only [Nat.add_zero] at hst
  have hst' : (storeVar ty ⟨g, off, none⟩ (.agg cs.toArray)).run P w = .ok () (w.setRow g (cur.toList.take off ++ cs ++ cur.toList.drop (off + cs.length)).toArray) := by
   simp [storeVar, hz, Value.cells, hn, hst]
  unfold Oper.wp execOp
  simp only [ho, hx, hy, Instr.storeAt, Instr.sureAddr, Sem.run_bind, Sem.run_pure, Result.andThen_ok, hst']
  exact hK _ _ hk
structure Mid (S : Nat → Prop) (w : World) (g cap : Nat) (T : TypeId) (l : List Val) (n0 kk q : Nat) (wr : World) : Prop where
 grown : GrownBy w wr (some g)
 len : (dedup Val.ord (l.take (n0 + q + 1))).length = kk
 le : kk ≤ n0 + q
 rows : ∃ rows : List (List Value), wr.heap[g]? = some (.cells rows.flatten.toArray T (0, 0)) ∧ rows.length = cap ∧ (∀ r ∈ rows, r.length = 8) ∧
  (∀ (i : Nat) (x : Val), (dedup Val.ord (l.take (n0 + q + 1)))[i]? = some x → ∃ cs, rows[i]? = some cs ∧ Val.At S w x cs) ∧ (∀ (i : Nat) (x : Val), n0 + q ≤ i → l[i]? = some x → ∃ cs, rows[i]? = some cs ∧ Val.At S w x cs)
theorem Mid.ext {S : Nat → Prop} {w wr w' : World} {g cap : Nat} {T : TypeId} {l : List Val} {n0 kk q : Nat} (h : Mid S w g cap T l n0 kk q wr) (k : Ext wr w') : Mid S w g cap T l n0 kk q w' := by
 obtain ⟨rows, h1, h2⟩ := h.rows
 exact ⟨h.grown.trans (GrownBy.of_ext _ k), h.len, h.le, rows, (k.block _ (zaf h1)).trans h1, h2⟩
theorem Mid.alike {S : Nat → Prop} {w wr : World} {g cap : Nat} {T : TypeId} {l : List Val} {n0 kk q : Nat} (h : Mid S w g cap T l n0 kk q wr) (hS : ∀ b, S b → b < w.heap.size) (hg : ¬ S g) : Alike S w wr :=
 fun b hb => h.grown.block b (hS b hb) (fun e => by injection e with e; subst e; exact hg hb)
theorem Mid.old {S : Nat → Prop} {w wr : World} {g cap : Nat} {T : TypeId} {l : List Val} {n0 kk q : Nat} {x y : Val} (h : Mid S w g cap T l n0 kk q wr) (hx : l[n0 + q]? = some x) (hy : l[n0 + q + 1]? = some y) (h0 : y.ord x = 0) :
  Mid S w g cap T l n0 kk (q + 1) wr := by
 have hd : dedup Val.ord (l.take (n0 + q + 1 + 1)) = dedup Val.ord (l.take (n0 + q + 1)) := by rw [za9 hx hy, if_pos h0, List.append_nil]
 obtain ⟨rows, h1, h2, h3, h4, h5⟩ := h.rows
 refine ⟨h.grown, ?_, by have := h.le; omega, rows, h1, h2, h3, ?_, fun i z hi => h5 i z (by omega)⟩
 ·rw [show n0 + (q + 1) + 1 = n0 + q + 1 + 1 by omega, hd]; exact h.len
 ·rw [show n0 + (q + 1) + 1 = n0 + q + 1 + 1 by omega, hd]; exact h4
theorem Mid.new {S : Nat → Prop} {w wr : World} {g cap : Nat} {T : TypeId} {l : List Val} {n0 kk q : Nat} {x y : Val} {cur : Array Value} {cs : List Value} (h : Mid S w g cap T l n0 kk q wr) (hx : l[n0 + q]? = some x) (hy : l[n0 + q + 1]? = some y) (h0 : y.ord x ≠ 0)
  (hcur : wr.heap[g]? = some (.cells cur T (0, 0))) (hcs : Val.At S w y cs) (hcap : l.length ≤ cap) :
  Mid S w g cap T l n0 (kk + 1) (q + 1) (wr.setRow g (cur.toList.take (kk * 8) ++ cs ++ cur.toList.drop (kk * 8 + cs.length)).toArray) := by
 have hd : dedup Val.ord (l.take (n0 + q + 1 + 1)) = dedup Val.ord (l.take (n0 + q + 1)) ++ [y] := by rw [za9 hx hy, if_neg h0]
 obtain ⟨rows, h1, h2, h3, h4, h5⟩ := h.rows
 rw [h1] at hcur
 injection hcur with hcur
 injection hcur with hcur
 subst hcur
 have hle := h.le
 have hyl : n0 + q + 1 < l.length := (List.getElem?_eq_some_iff.1 hy).1
 have h8 := hcs.length
 have hk : kk < rows.length := by omega
 have hset : (rows.flatten.toArray.toList.take (kk * 8) ++ cs ++ rows.flatten.toArray.toList.drop (kk * 8 + cs.length)) = (rows.set kk cs).flatten := by
  rw [h8]; simpa using flatten_set h3 hk h8
 rw [hset]
 refine ⟨h.grown.trans (GrownBy.setRow _ _ _), ?_, by omega, rows.set kk cs, zbq h1 _, by simpa using h2, fun r hr => ?_, fun i z hi => ?_, fun i z hi hz => ?_⟩
 ·rw [show n0 + (q + 1) + 1 = n0 + q + 1 + 1 by omega, hd, List.length_append, h.len]; rfl
 ·rcases List.mem_or_eq_of_mem_set hr with hr | rfl
  ·exact h3 r hr
  ·exact h8
 ·rw [show n0 + (q + 1) + 1 = n0 + q + 1 + 1 by omega, hd] at hi
  by_cases hik : i < kk
  ·rw [List.getElem?_append_left (by rw [h.len]; exact hik)] at hi
   obtain ⟨c, hc, hat⟩ := h4 i z hi
   exact ⟨c, by rw [List.getElem?_set_ne (by omega)]; exact hc, hat⟩
  ·rw [List.getElem?_append_right (by rw [h.len]; omega), h.len] at hi
   have : i = kk := by
    have := (List.getElem?_eq_some_iff.1 hi).1
    simp at this; omega
   subst this
   simp at hi; subst hi
   exact ⟨cs, by rw [List.getElem?_set_self hk], hcs⟩
 ·obtain ⟨c, hc, hat⟩ := h5 i z (by omega) hz
  exact ⟨c, by rw [List.getElem?_set_ne (by omega)]; exact hc, hat⟩
end Go.Proofs.YtebfoimbdljbmaaGreatDoor

/-
  Kinds of things that lie in cells, and rows of them: read, made longer. No function of the program. The conditions: none (definitions and lemmas).
-/
namespace Go.Proofs.YtebfoimbdljbmaaGreatDoor
open Go.RowKit
structure Rep (α : Type) where
 size : Nat
 pos : 0 < size
 At : (Nat → Prop) → World → α → List Value → Prop
 len : ∀ {S : Nat → Prop} {w : World} {x : α} {cs : List Value}, At S w x cs → cs.length = size
 one : ∀ {S : Nat → Prop} {w : World} {x : α} {cs : List Value}, At S w x cs → ∀ u ∈ cs, u.oneCell' = true
 alike : ∀ {S : Nat → Prop} {w w' : World} {x : α} {cs : List Value}, At S w x cs → Alike S w w' → At S w' x cs
 mono : ∀ {S S' : Nat → Prop} {w : World} {x : α} {cs : List Value}, At S w x cs → (∀ b, S b → S' b) → At S' w x cs
section
variable {α : Type} (R : Rep α)
def Rep.RowAt (S : Nat → Prop) (w : World) (l : List α) (b o : Nat) : Prop := ∀ (i : Nat) (x : α), l[i]? = some x → ∃ cs, CellsAt w b (o + i * R.size) cs ∧ R.At S w x cs
def Rep.RowsAt (S : Nat → Prop) (w : World) (l : List α) (v : Value) : Prop :=
 ∃ A cap, v = .slice A l.length cap ∧ (l.length ≤ LIM ∧ l.length ≤ cap ∧ cap ≤ maxLen) ∧ (0 < l.length → ∃ b o, A = some ⟨b, o, none⟩ ∧ S b ∧ R.RowAt S w l b o)
def Rep.Flat (S : Nat → Prop) (w : World) : List α → List Value → Prop
 | [], xs => xs = []
 | v :: r, xs => ∃ cs ys, xs = cs ++ ys ∧ R.At S w v cs ∧ Rep.Flat S w r ys
variable {R}
theorem Rep.RowAt.alike {S : Nat → Prop} {w w' : World} {l : List α} {b o : Nat} (h : R.RowAt S w l b o) (hb : S b) (k : Alike S w w') : R.RowAt S w' l b o := fun i x hx => by
 obtain ⟨cs, h1, h2⟩ := h i x hx
 exact ⟨cs, h1.alike hb k, R.alike h2 k⟩
theorem Rep.RowAt.mono {S S' : Nat → Prop} {w : World} {l : List α} {b o : Nat} (h : R.RowAt S w l b o) (k : ∀ b, S b → S' b) : R.RowAt S' w l b o := fun i x hx => by
 obtain ⟨cs, h1, h2⟩ := h i x hx
 exact ⟨cs, h1, R.mono h2 k⟩
theorem Rep.RowsAt.alike {S : Nat → Prop} {w w' : World} {l : List α} {v : Value} (h : R.RowsAt S w l v) (k : Alike S w w') : R.RowsAt S w' l v := by
 obtain ⟨A, cap, h1, h2, h3⟩ := h
 exact ⟨A, cap, h1, h2, fun hn => let ⟨b, o, e, hs, hr⟩ := h3 hn; ⟨b, o, e, hs, hr.alike hs k⟩⟩
theorem Rep.RowsAt.mono {S S' : Nat → Prop} {w : World} {l : List α} {v : Value} (h : R.RowsAt S w l v) (k : ∀ b, S b → S' b) : R.RowsAt S' w l v := by
 obtain ⟨A, cap, h1, h2, h3⟩ := h
 exact ⟨A, cap, h1, h2, fun hn => let ⟨b, o, e, hs, hr⟩ := h3 hn; ⟨b, o, e, k b hs, hr.mono k⟩⟩
theorem Rep.RowsAt.nil (S : Nat → Prop) (w : World) : R.RowsAt S w [] (.slice none 0 0) := ⟨none, 0, rfl, ⟨by simp, by simp, by simp⟩, by simp⟩
theorem Rep.RowsAt.one {S : Nat → Prop} {w : World} {l : List α} {v : Value} (h : R.RowsAt S w l v) : v.oneCell' = true := by
 obtain ⟨A, cap, rfl, _⟩ := h; rfl
theorem Rep.RowAt.take {S : Nat → Prop} {w : World} {l : List α} {b o : Nat} (h : R.RowAt S w l b o) (n : Nat) : R.RowAt S w (l.take n) b o := fun i x hx => by
 rw [List.getElem?_take] at hx
 split at hx
 ·exact h i x hx
 ·cases hx
theorem Rep.RowAt.drop {S : Nat → Prop} {w : World} {l : List α} {b o : Nat} (h : R.RowAt S w l b o) (n : Nat) : R.RowAt S w (l.drop n) b (o + n * R.size) := fun i x hx => by
 rw [List.getElem?_drop] at hx
 obtain ⟨cs, h1, h2⟩ := h _ x hx
 refine ⟨cs, ?_, h2⟩
 rw [show o + n * R.size + i * R.size = o + (n + i) * R.size by rw [Nat.add_mul]; omega]
 exact h1
theorem Rep.Flat.append {S : Nat → Prop} {w : World} : ∀ {l m : List α} {xs ys : List Value}, R.Flat S w l xs → R.Flat S w m ys → R.Flat S w (l ++ m) (xs ++ ys)
 | [], _, xs, ys, h, k => by simp only [Rep.Flat] at h; subst h; exact k
 | v :: r, m, xs, ys, ⟨c, zs, e, hv, hr⟩, k => ⟨c, zs ++ ys, by rw [e, List.append_assoc], hv, Rep.Flat.append hr k⟩
theorem Rep.Flat.single {S : Nat → Prop} {w : World} {x : α} {cs : List Value} (h : R.At S w x cs) : R.Flat S w [x] cs := ⟨cs, [], by simp, h, rfl⟩
theorem Rep.Flat.snoc {S : Nat → Prop} {w : World} {x : α} {cs : List Value} (hx : R.At S w x cs) {l : List α} {xs : List Value} (h : R.Flat S w l xs) : R.Flat S w (l ++ [x]) (xs ++ cs) := h.append (.single hx)
theorem Rep.Flat.alike {S : Nat → Prop} {w w' : World} (k : Alike S w w') : ∀ {l : List α} {xs : List Value}, R.Flat S w l xs → R.Flat S w' l xs
 | [], _, h => h
 | _ :: _, _, ⟨c, ys, e, hv, hr⟩ => ⟨c, ys, e, R.alike hv k, Rep.Flat.alike k hr⟩
theorem Rep.Flat.mono {S S' : Nat → Prop} {w : World} (k : ∀ b, S b → S' b) : ∀ {l : List α} {xs : List Value}, R.Flat S w l xs → R.Flat S' w l xs
 | [], _, h => h
 | _ :: _, _, ⟨c, ys, e, hv, hr⟩ => ⟨c, ys, e, R.mono hv k, Rep.Flat.mono k hr⟩
theorem Rep.Flat.length {S : Nat → Prop} {w : World} : ∀ {l : List α} {xs : List Value}, R.Flat S w l xs → xs.length = l.length * R.size
 | [], _, h => by simp only [Rep.Flat] at h; subst h; simp
 | _ :: r, _, ⟨c, ys, e, hv, hr⟩ => by
  subst e
  have := R.len hv
  have := Rep.Flat.length hr
  simp [Nat.succ_mul]; omega
theorem Rep.Flat.one {S : Nat → Prop} {w : World} : ∀ {l : List α} {xs : List Value}, R.Flat S w l xs → ∀ u ∈ xs, u.oneCell' = true
 | [], _, h => by simp only [Rep.Flat] at h; subst h; simp
 | _ :: r, _, ⟨c, ys, e, hv, hr⟩ => by
  subst e
  intro u hu
  rcases List.mem_append.1 hu with hu | hu
  ·exact R.one hv u hu
  ·exact Rep.Flat.one hr u hu
theorem Rep.Flat.get {S : Nat → Prop} {w : World} : ∀ {l : List α} {xs : List Value} {i : Nat} {x : α}, R.Flat S w l xs → l[i]? = some x → ∃ cs, R.At S w x cs ∧ ∀ j v, cs[j]? = some v → xs[i * R.size + j]? = some v
 | [], _, _, _, _, h => by simp at h
 | v :: r, _, 0, x, ⟨c, ys, e, hv, hr⟩, h => by
  simp at h; subst h; subst e
  refine ⟨c, hv, fun j u hj => ?_⟩
  rw [List.getElem?_append_left (by simpa using (List.getElem?_eq_some_iff.1 hj).1)]
  simpa using hj
 | v :: r, _, i + 1, x, ⟨c, ys, e, hv, hr⟩, h => by
  subst e
  obtain ⟨cs, h2, h3⟩ := Rep.Flat.get hr (i := i) (x := x) (by simpa using h)
  refine ⟨cs, h2, fun j u hj => ?_⟩
  have := R.len hv
  rw [Nat.succ_mul, List.getElem?_append_right (by omega), show i * R.size + R.size + j - c.length = i * R.size + j from by omega]
  exact h3 j u hj
theorem Rep.Flat.row {S : Nat → Prop} {w : World} {l : List α} {xs : List Value} {b o : Nat} (h : R.Flat S w l xs) (hc : CellsAt w b o xs) : R.RowAt S w l b o := fun i x hx => by
 obtain ⟨cs, h1, h2⟩ := h.get hx
 exact ⟨cs, fun j v hj => by rw [Nat.add_assoc]; exact hc _ v (h2 j v hj), h1⟩
theorem own_cells {w : World} {base : Nat} {e : TypeId} {size n : Nat} {v : Value} {xs : List Value} (h : w.ownsRow base e size v n xs) (hn : 0 < n) : ∃ g cap, v = .slice (some ⟨g, 0, none⟩) n cap ∧ base ≤ g ∧ n ≤ cap ∧ cap ≤ maxLen ∧ CellsAt w g 0 xs := by
 obtain ⟨hx, hv⟩ := h
 rcases hv with ⟨rfl, hn0⟩ | ⟨g, cap, cur, rfl, hg, hh, hnc, hcm, hcur, htake⟩
 ·omega
 ·refine ⟨g, cap, rfl, hg, hnc, hcm, fun j u hj => ?_⟩
  rw [cell_of_row _ _ _ _ _ _ hh]
  rw [← htake, List.getElem?_take] at hj
  split at hj
  ·simpa using hj
  ·cases hj
theorem own_rows {S S' : Nat → Prop} {w : World} {base : Nat} {e : TypeId} {v : Value} {l : List α} {xs : List Value} (h : w.ownsRow base e R.size v l.length xs) (hf : R.Flat S w l xs) (hl : l.length ≤ LIM)
  (h1 : ∀ b, S b → S' b) (h2 : ∀ b, v.ownBlock = some b → S' b) : R.RowsAt S' w l v := by
 by_cases hn : 0 < l.length
 ·obtain ⟨g, cap, rfl, hg, hnc, hcm, hc⟩ := own_cells h hn
  exact ⟨_, cap, rfl, ⟨hl, hnc, hcm⟩, fun _ => ⟨g, 0, rfl, h2 g rfl, (hf.row hc).mono h1⟩⟩
 ·obtain ⟨hx, hv⟩ := h
  rcases hv with ⟨rfl, hn0⟩ | ⟨g, cap, cur, rfl, hg, hh, hnc, hcm, hcur, htake⟩
  ·exact ⟨none, 0, by rw [hn0], ⟨hl, by omega, by simp⟩, by omega⟩
  ·exact ⟨_, cap, rfl, ⟨hl, hnc, hcm⟩, by omega⟩
end
/-! ### the kinds -/
theorem Alike.mono {S S' : Nat → Prop} {w w' : World} (h : Alike S w w') (k : ∀ b, S' b → S b) : Alike S' w w' := fun b hb => h b (k b hb)
def valR : Rep Val where
 size := 8
 pos := by omega
 At S w x cs := Val.At S w x cs
 len h := h.length
 one h := h.one
 alike h k := h.alike k
 mono h k := h.mono k
end Go.Proofs.YtebfoimbdljbmaaGreatDoor

/-
  Words for the walks of laws: a struct in a box of the call's own, a value that lies in what is there. The conditions: none (definitions and lemmas).
-/
namespace Go.Proofs.YtebfoimbdljbmaaGreatDoor
open Go.RowKit
def BoxAt (W : World) (g : Nat) (cs : List Value) : Prop := g < W.heap.size ∧ CellsAt W g 0 cs
theorem BoxAt.ext {W W' : World} {g : Nat} {cs : List Value} (h : BoxAt W g cs) (k : Ext W W') : BoxAt W' g cs := ⟨Nat.lt_of_lt_of_le h.1 k.size, h.2.alike (S := fun b => b < W.heap.size) h.1 (Alike.of_ext k fun _ h => h)⟩
theorem BoxAt.new (W : World) (T : TypeId) (cs : List Value) : BoxAt (W.alloc (.cells cs.toArray T)) W.heap.size cs := ⟨by simp, cellsAt_new T cs rfl⟩
theorem BoxAt.cells {W : World} {g : Nat} {v0 v1 v2 v3 v4 v5 v6 v7 : Value} (h : BoxAt W g [v0, v1, v2, v3, v4, v5, v6, v7]) : W.cell? ⟨g, 0, none⟩ = some v0 ∧ W.cell? ⟨g, 1, none⟩ = some v1 ∧ W.cell? ⟨g, 2, none⟩ = some v2 ∧ W.cell? ⟨g, 3, none⟩ = some v3 ∧
  W.cell? ⟨g, 4, none⟩ = some v4 ∧ W.cell? ⟨g, 5, none⟩ = some v5 ∧ W.cell? ⟨g, 6, none⟩ = some v6 ∧ W.cell? ⟨g, 7, none⟩ = some v7 :=
 ⟨h.2 0 _ rfl, by simpa using h.2 1 _ rfl, by simpa using h.2 2 _ rfl, by simpa using h.2 3 _ rfl, by simpa using h.2 4 _ rfl, by simpa using h.2 5 _ rfl, by simpa using h.2 6 _ rfl, by simpa using h.2 7 _ rfl⟩
def InW (W : World) (v : Val) (cs : List Value) : Prop := Val.At (fun b => b < W.heap.size) W v cs
theorem InW.ext {W W' : World} {v : Val} {cs : List Value} (h : InW W v cs) (k : Ext W W') : InW W' v cs := (Val.At.alike (Alike.of_ext k fun _ h => h) v cs h).mono fun _ hb => Nat.lt_of_lt_of_le hb k.size
theorem InW.lt (W : World) : ∀ b, (fun b => b < W.heap.size) b → b < W.heap.size := fun _ h => h
end Go.Proofs.YtebfoimbdljbmaaGreatDoor

/-
  Entities in memory; the order of names; where names stand first. The conditions: the arguments lie in memory as they should.
-/
namespace Go.Proofs.YtebfoimbdljbmaaGreatDoor
open Go.RowKit
def uidR : Rep Uid where
 size := 2
 pos := by omega
 At _ _ x cs := cs = [.string x.1, .string x.2] ∧ zaw x
 len h := by rw [h.1]; rfl
 one h := by rw [h.1]; simp [Value.oneCell']
 alike h _ := h
 mono h _ := h
def entR : Rep Ent where
 size := 11
 pos := by omega
 At S w e cs := ∃ pv acs, cs = .string e.uid.1 :: .string e.uid.2 :: pv :: acs ∧ zaw e.uid ∧ uidR.RowsAt S w e.ps pv ∧ Val.At S w e.av acs
 len h := by
  obtain ⟨pv, acs, rfl, _, _, h⟩ := h
  simp [h.length]
 one h := by
  obtain ⟨pv, acs, rfl, _, h1, h⟩ := h
  intro u hu
  simp only [List.mem_cons] at hu
  rcases hu with rfl | rfl | rfl | hu
  ·rfl
  ·rfl
  ·exact h1.one
  ·exact h.one u hu
 alike h k := by
  obtain ⟨pv, acs, rfl, h0, h1, h2⟩ := h
  exact ⟨pv, acs, rfl, h0, h1.alike k, h2.alike k⟩
 mono h k := by
  obtain ⟨pv, acs, rfl, h0, h1, h2⟩ := h
  exact ⟨pv, acs, rfl, h0, h1.mono k, h2.mono k⟩
theorem zac : ∀ w, (isAgg 23).run Tryz.prog w = .ok true w := fun _ => by kernel_rfl
theorem zab : ∀ w, (Go.sizeOf 23).run Tryz.prog w = .ok 2 w := fun _ => by kernel_rfl
end Go.Proofs.YtebfoimbdljbmaaGreatDoor

/-
  A statement whose order Go leaves open and whose operations make or write memory: each operation is shown by itself, from what those before it leave; then a tail in a forced order. The conditions: none (lemmas on the model).
-/
namespace Go.Proofs.YtebfoimbdljbmaaGreatDoor
open Go.RowKit
def zao : Act → List Oper → List Value → Act
 | a, o :: r, x :: s => zao (a.put o.dst x) r s
 | a, _, _ => a
def zbc : List Oper → Bool
 | [] => true
 | o :: r => (match o.dst with | none => true | some d => r.all fun p => p.dst != some d) && zbc r
theorem putAll_put {o : Oper} {v : Value} : ∀ (l : List Oper) (xs : List Value) (a : Act), (∀ d, o.dst = some d → ∀ p ∈ l, p.dst ≠ some d) → zao (a.put o.dst v) l xs = (zao a l xs).put o.dst v
 | [], _, _, _ => by simp [zao]
 | p :: r, [], _, _ => by simp [zao]
 | p :: r, x :: s, a, h => by
  simp only [zao]
  rw [Act.put_comm a v x fun d hd => h d hd p (by simp), putAll_put r s _ fun d hd q hq => h d hd q (by simp [hq])]
theorem Act.put_put (a : Act) (d : Option Tmp) (u v : Value) : (a.put d u).put d v = a.put d v := by
 cases d <;> simp [Act.put]
theorem putAll_set {v : Value} : ∀ (l : List Oper) (xs : List Value) (a : Act) (i : Nat) (o : Oper), zbc l = true → l[i]? = some o → xs.length = l.length → (zao a l xs).put o.dst v = zao a l (xs.set i v)
 | [], _, _, i, _, _, h, _ => by simp at h
 | p :: r, [], _, i, _, _, _, h => by simp at h
 | p :: r, x :: s, a, 0, o, hd, h, hl => by
  simp at h; subst h
  simp only [zbc, Bool.and_eq_true] at hd
  simp only [zao, List.set_cons_zero]
  rw [← putAll_put r s _ fun d hdd q hq => ?_, Act.put_put]
  rw [hdd] at hd
  simpa using List.all_eq_true.1 hd.1 q hq
 | p :: r, x :: s, a, i + 1, o, hd, h, hl => by
  simp only [zbc, Bool.and_eq_true] at hd
  simp only [zao, List.set_cons_succ]
  exact putAll_set r s _ i o hd.2 (by simpa using h) (by simpa using hl)
def slotsOf (a : Act) (l : List Oper) : List Value := l.map fun o => match o.dst with | some d => a.tmps.getD d undef | none => undef
theorem Act.put_self (a : Act) (d : Tmp) : a.put (some d) (a.tmps.getD d undef) = a := by
 cases a with
 | mk t df =>
  simp only [Act.put]
  congr 1
  apply Array.ext_getElem?
  intro i
  rw [Array.getElem?_setIfInBounds]
  split
  ·rename_i h; subst h
   split
   ·rename_i h; simp [h]
   ·rename_i h; simp [h]
  ·rfl
theorem putAll_slots (a : Act) : ∀ l : List Oper, zao a l (slotsOf a l) = a
 | [] => rfl
 | o :: r => by
  simp only [slotsOf, List.map_cons, zao]
  have : a.put o.dst (match o.dst with | some d => a.tmps.getD d undef | none => undef) = a := by
   cases hd : o.dst with
   | none => rfl
   | some d => exact Act.put_self a d
  rw [this]
  exact putAll_slots a r
def waits (l : List Oper) (i j : Nat) : Bool := match l[i]? with
 | some o => o.after.any fun e => Region.binds .any e && e.on == j
 | none => false
def headDone (n m : Nat) : Array Bool := (List.replicate n true ++ List.replicate (m - n) false).toArray
def monoB (l : List Oper) (n : Nat) : Bool :=
 decide (n ≤ l.length) && zbc (l.take n) && (l.take n).zipIdx.all (fun (o, i) => o.after.all fun e => !Region.binds .any e || decide (e.on < i)) &&
 (decide (n = l.length) || (decide (n < l.length) && Region.sinkB .any l.toArray n && Region.chainB .any l.toArray n)) && Region.seqB .any l.toArray (l.length - n) n (headDone n l.length)
section
variable {P : Program} {l : List Oper} {n : Nat} {a0 : Act} {Inv : World → Prop} {T : Nat → World → World → Prop} {Pre : Nat → World → Prop} {Φ : Nat → Value → World → Prop}
def unlisted (n : Nat) (listed : Array Bool) : Nat := (List.range n).countP fun i => !listed.getD i true
theorem unlisted_set {n i : Nat} {listed : Array Bool} (hi : i < n) (h : listed.getD i true = false) : unlisted n listed = unlisted n (listed.setIfInBounds i true) + 1 := by
 have hlt : i < listed.size := by
  rcases Nat.lt_or_ge i listed.size with h' | h'
  ·exact h'
  ·rw [Array.getD_eq_getD_getElem?, Array.getElem?_eq_none h'] at h; simp at h
 have key : ∀ m, (List.range m).countP (fun j => !listed.getD j true) = (List.range m).countP (fun j => !(listed.setIfInBounds i true).getD j true) + if i < m then 1 else 0 := by
  intro m
  induction m with
  | zero => simp
  | succ m ih =>
   rw [List.range_succ, List.countP_append, List.countP_append, ih]
   by_cases hm : m = i
   ·subst hm
    have h2 : (listed.setIfInBounds m true).getD m true = true := by simp [hlt]
    simp only [List.countP_singleton, h, h2]
    simp
   ·rw [show List.countP (fun j => !listed.getD j true) [m] = List.countP (fun j => !(listed.setIfInBounds i true).getD j true) [m] by
     simp only [List.countP_singleton, getD_set_ne true (Ne.symm hm)]]
    by_cases hmi : i < m
    ·rw [if_pos hmi, if_pos (by omega)]; omega
    ·rw [if_neg hmi, if_neg (by omega)]; omega
 have := key n
 rw [if_pos hi] at this
 exact this
end
end Go.Proofs.YtebfoimbdljbmaaGreatDoor

/-
  A statement that makes two rows of a call's own longer by one, in an order that Go leaves open: what each operation leaves. The conditions: none (definitions and lemmas).
-/
namespace Go.Proofs.YtebfoimbdljbmaaGreatDoor
open Go.RowKit
theorem exec_append_at {P : Program} {o : Oper} {a : Act} {w : World} (s x : Operand) (t : TypeId)
  (ho : o.op = .call { callee := .builtin .append, args := #[s, x], argTypes := #[t, t] })
  (base : Nat) (e : TypeId) (i : TypeInfo) (z : Value) (size bytes : Nat) (ht : P.underlying t = some (.slice e)) (hi : P.info? e = some i) (hz : i.zero = some z)
  (hsize : i.size = size) (hby : i.bytes = bytes) (hzs : z.cells.size = size) (hsz : 0 < size)
  (v : Value) (n : Nat) (xs : List Value) (hs : a.eval s = v) (hown : w.ownsRow base e size v n xs)
  (b of m c : Nat) (news : List Value) (hx : a.eval x = .slice (some ⟨b, of, none⟩) m c) (hl : news.length = m * size) (hnews : CellsAt w b of news) (h1 : ∀ u ∈ news, u.oneCell' = true)
  (h63 : n + m ≤ maxLen) (hbytes : (n + m) * bytes ≤ 140737488355328) (hbase : base ≤ w.heap.size) :
  ∃ v' w', (execOp a.eval o).run P w = .ok (.value v') w' ∧ w'.ownsRow base e size v' (n + m) (xs ++ news) ∧ GrownBy w w' v.ownBlock ∧ (v'.ownBlock = v.ownBlock ∨ v'.ownBlock = some w.heap.size) := by
 obtain ⟨v', w', hrun, h2, h3, _, h4⟩ := run_append_own_at (P := P) w base t o.type e i z size bytes ht hi hz hsize hby hzs hsz v n xs hown ⟨b, of, none⟩ m c news hl (cell_add hnews) h1 h63 hbytes hbase
 refine ⟨v', w', ?_, h2, ⟨h3, zb7 _ _ _ _ hrun⟩, h4⟩
 unfold execOp
 simp only [ho, resolve, invoke, builtin, Sem.run_bind, Sem.run_pure, Result.andThen_ok, List.map_toArray, List.map_cons, List.map_nil, hs, hx, hrun]
theorem zaj {w w' : World} {base : Nat} {e : TypeId} {size : Nat} {v : Value} {n : Nat} {xs : List Value} {r : Option Nat} (h : w.ownsRow base e size v n xs) (k : GrownBy w w' r) (hr : ∀ b, v.ownBlock = some b → r ≠ some b) : w'.ownsRow base e size v n xs := by
 obtain ⟨h1, h2⟩ := h
 refine ⟨h1, ?_⟩
 rcases h2 with h2 | ⟨g, cap, cur, hv, hg, hh, q⟩
 ·exact .inl h2
 ·refine .inr ⟨g, cap, cur, hv, hg, (k.block _ (zaf hh) fun e => ?_).trans hh, q⟩
  exact hr g (by rw [hv]; rfl) e.symm
section two
variable (v0 : World) (base O F : Nat) (I N : Value) (k : Nat) (xsI xsN : List Value) (nm : ByteArray) (cs : List Value)
def Longer (T : TypeId) (size : Nat) (R : Value) (xs news : List Value) (x : Value) (w : World) : Prop :=
 w.ownsRow base T size x (k + 1) (xs ++ news) ∧ (x.ownBlock = R.ownBlock ∨ ∀ b, x.ownBlock = some b → v0.heap.size ≤ b)
def OneNew (cs : List Value) (x : Value) (w : World) : Prop := ∃ b, x = .slice (some ⟨b, 0, none⟩) 1 1 ∧ v0.heap.size ≤ b ∧ b < w.heap.size ∧ CellsAt w b 0 cs
structure TwoInv (w : World) : Prop where
 os : w.os = v0.os
 tape : w.tape = v0.tape
 output : w.output = v0.output
 size : v0.heap.size ≤ w.heap.size
 block : ∀ b, b < v0.heap.size → I.ownBlock ≠ some b → N.ownBlock ≠ some b → w.heap[b]? = v0.heap[b]?
 drawn : v0.drawn ≤ w.drawn
theorem OneNew.ext {v0 w w' : World} {cs : List Value} {x : Value} (h : OneNew v0 cs x w) (k : Ext w w') : OneNew v0 cs x w' := by
 obtain ⟨b, h1, h2, h3, h4⟩ := h
 exact ⟨b, h1, h2, Nat.lt_of_lt_of_le h3 k.size, h4.alike (S := fun c => c < w.heap.size) h3 (Alike.of_ext k fun _ h => h)⟩
theorem OneNew.grown {v0 w w' : World} {cs : List Value} {x : Value} {r : Option Nat} (h : OneNew v0 cs x w) (k : GrownBy w w' r) (hr : ∀ b, r = some b → b < v0.heap.size) : OneNew v0 cs x w' := by
 obtain ⟨b, h1, h2, h3, h4⟩ := h
 refine ⟨b, h1, h2, Nat.lt_of_lt_of_le h3 k.size, fun j v hj => ?_⟩
 exact (World.cell?_of_block (w := w) (a := ⟨b, 0 + j, none⟩) (k.block b h3 (fun e => by have := hr b e.symm; omega))).trans (h4 j v hj)
theorem Longer.ext {v0 : World} {base k : Nat} {T : TypeId} {size : Nat} {R x : Value} {xs news : List Value} {w w' : World} (h : Longer v0 base k T size R xs news x w) (e : Ext w w') : Longer v0 base k T size R xs news x w' := ⟨zah h.1 e, h.2⟩
theorem Longer.grown {v0 : World} {base k : Nat} {T : TypeId} {size : Nat} {R x : Value} {xs news : List Value} {w w' : World} {r : Option Nat} (h : Longer v0 base k T size R xs news x w) (e : GrownBy w w' r) (hr : ∀ b, r = some b → b < v0.heap.size) (hR : ∀ b, R.ownBlock = some b → r ≠ some b) :
  Longer v0 base k T size R xs news x w' :=
 ⟨zaj h.1 e fun b hb hrb => by
  rcases h.2 with h2 | h2
  ·exact hR b (h2 ▸ hb) hrb
  ·have := h2 b hb; have := hr b hrb; omega, h.2⟩
theorem TwoInv.ext {w w' : World} (h : TwoInv v0 I N w) (e : Ext w w') : TwoInv v0 I N w' :=
 ⟨e.os.trans h.os, e.tape.trans h.tape, e.output.trans h.output, Nat.le_trans h.size e.size, fun b hb h1 h2 => (e.block b (Nat.lt_of_lt_of_le hb h.size)).trans (h.block b hb h1 h2), Nat.le_trans h.drawn e.drawn⟩
end two
/-! ### the slots behind a list of results -/
theorem Act.eval_put_ne {a : Act} {d : Option Tmp} {v : Value} {t : Tmp} (h : d ≠ some t) : (a.put d v).eval (.tmp t) = a.eval (.tmp t) := by
 cases d with
 | none => rfl
 | some d =>
  have hd : d ≠ t := fun e => h (by rw [e])
  simp [Act.put, Act.eval, hd]
theorem Act.eval_put_same {a : Act} {v : Value} {t : Tmp} (h : t < a.tmps.size) : (a.put (some t) v).eval (.tmp t) = v := by
 simp [Act.put, Act.eval, h]
theorem Act.size_put {a : Act} {d : Option Tmp} {v : Value} : (a.put d v).tmps.size = a.tmps.size := by
 cases d <;> simp [Act.put]
theorem putAll_old {t : Tmp} : ∀ (l : List Oper) (xs : List Value) (a : Act), (∀ o ∈ l, o.dst ≠ some t) → (zao a l xs).eval (.tmp t) = a.eval (.tmp t)
 | [], _, _, _ => by simp [zao]
 | _ :: _, [], _, _ => by simp [zao]
 | o :: r, x :: s, a, h => by
  rw [zao, putAll_old r s _ fun p hp => h p (by simp [hp]), Act.eval_put_ne (h o (by simp))]
theorem zbj {P : Program} {o : Oper} {a : Act} {w : World} (ty : TypeId) (x : Operand) (ho : o.op = .load ty x) (b off : Nat) (hx : a.eval x = .pointer (some ⟨b, off, none⟩)) (hA : ∀ w, (isAgg ty).run P w = .ok false w) {v : Value}
  (hc : w.cell? ⟨b, off, none⟩ = some v) : (execOp a.eval o).run P w = .ok (.value v) w := by
 unfold execOp
 simp [ho, hx, Instr.loadAt, Instr.sureAddr, loadVar, hA, load, Sem.run, hc]
theorem exec_field {P : Program} {o : Oper} {a : Act} {w : World} (ty : TypeId) (x : Operand) (f : Nat) (ho : o.op = .fieldAddr ty x f) {v v' : Value} (hx : a.eval x = v) (hf : ∀ w, (Instr.fieldAt ty v f).run P w = .ok v' w) :
  (execOp a.eval o).run P w = .ok (.value v') w := by
 unfold execOp
 simp [ho, hx, hf]
theorem Tryz.agg9 : ∀ w, (isAgg 9).run Tryz.prog w = .ok false w := fun _ => by kernel_rfl
theorem Tryz.info9 : (Tryz.prog.info? 9).map (fun i => (i.zero, i.size, i.bytes)) = some (some (.string ByteArray.empty), 1, 16) := by kernel_rfl
theorem row_types {w : World} {B B' : Nat} {T T' : TypeId} {n n' k k' : Nat} {v v' : Value} {xs xs' : List Value} (h : w.ownsRow B T n v k xs) (h' : w.ownsRow B' T' n' v' k' xs') (hT : T ≠ T') {b : Nat} (hb : v.ownBlock = some b) (hb' : v'.ownBlock = some b) : False := by
 rcases h.2 with ⟨rfl, _⟩ | ⟨g, cap, cur, rfl, _, hh, _⟩
 ·cases hb
 ·rcases h'.2 with ⟨rfl, _⟩ | ⟨g', cap', cur', rfl, _, hh', _⟩
  ·cases hb'
  ·have e1 : g = b := by injection hb
   have e2 : g' = b := by injection hb'
   subst e1; subst e2
   rw [hh] at hh'
   injection hh' with hh'
   injection hh' with _ h2
   exact hT h2
theorem Ext.setRow {w w' : World} (h : Ext w w') {g : Nat} (hg : w.heap.size ≤ g) (cs : Array Value) : Ext w (w'.setRow g cs) := by
 refine ⟨⟨h.os, h.tape, h.output, by simpa [World.setRow] using h.size, fun b hb => ?_⟩, h.drawn⟩
 have := (GrownBy.setRow w' g cs).block b (Nat.lt_of_lt_of_le hb h.size) (fun e => by injection e with e; omega)
 exact this.trans (h.block b hb)
theorem zcc {P : Program} {fn : Func} {tmps : Array Value} {w : World} {a : Tmp} {T : TypeId} {g n : Nat} {cs : List Value} (h : fn.results = #[.cell a T]) (hp : tmps.getD a undef = .pointer (some ⟨g, 0, none⟩))
  (hA : ∀ w, (isAgg T).run P w = .ok true w) (hz : ∀ w, (Go.sizeOf T).run P w = .ok n w) (hn : cs.length = n) (hc : CellsAt w g 0 cs) : (results fn tmps).run P w = .ok (.agg cs.toArray) w := by
 have hp' : tmps[a]?.getD undef = .pointer (some ⟨g, 0, none⟩) := by simpa using hp
 simp [results, h, hp', asAddr, zb2 hA hz hn hc]
theorem zbg {w : World} {g : Nat} {cur : Array Value} {T : TypeId} (h : w.heap[g]? = some (.cells cur T (0, 0))) {cs : List Value} {l : List Value} (hl : l = cs) : CellsAt (w.setRow g l.toArray) g 0 cs := fun j v hj => by
 subst hl
 rw [cell_of_row _ _ _ _ _ _ (zbq h _), Nat.zero_add]; simpa using hj
theorem zaq {w : World} {g : Nat} {cur : Array Value} {T : TypeId} {fz : Nat × Nat} (h : w.heap[g]? = some (.cells cur T fz)) (j : Nat) (v : Value) : (w.setCell ⟨g, j, none⟩ v).heap[g]? = some (.cells (cur.setIfInBounds j v) T fz) := by
 simp [World.setCell, Array.getElem?_modify, h]
theorem GrownBy.setCell (w : World) (g j : Nat) (v : Value) : GrownBy w (w.setCell ⟨g, j, none⟩ v) (some g) :=
 ⟨⟨rfl, rfl, rfl, by simp [World.setCell], fun b _ hb => Below.heap_setCell w ⟨g, j, none⟩ v b (fun e => hb (by rw [e]))⟩, Nat.le_refl _⟩
theorem zap {w : World} {base : Nat} {e : TypeId} {size n : Nat} {v : Value} {xs : List Value} (h : w.ownsRow base e size v n xs) : ∃ A cap, v = .slice A n cap := by
 rcases h.2 with ⟨rfl, rfl⟩ | ⟨g, cap, cur, rfl, _⟩
 ·exact ⟨none, 0, rfl⟩
 ·exact ⟨_, cap, rfl⟩
end Go.Proofs.YtebfoimbdljbmaaGreatDoor
