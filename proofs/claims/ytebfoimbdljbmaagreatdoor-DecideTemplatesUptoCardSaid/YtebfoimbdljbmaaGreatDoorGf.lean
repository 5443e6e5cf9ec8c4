/-
  What the program's canon and Canon, and the reference's Canon, come to: the same plain function. The conditions: none beyond each contract's own.
-/
import Derived.Test.YtebfoimbdljbmaaGreatDoorGc
import Derived.Test.YtebfoimbdljbmaaGreatDoorGb
import Derived.Test.YtebfoimbdljbmaaGreatDoorGe
import Derived.Test.YtebfoimbdljbmaaGreatDoorGd
import Derived.Shelf.SlGeneric
import Derived.Ground.SlsfProg
import Derived.Shelf.SlSortCmp.WholeK
import Derived.Test.YtebfoimbdljbmaaGreatDoorProg
namespace Go.Proofs.YtebfoimbdljbmaaGreatDoor
open Go.RowKit
theorem zay : ByteArray.empty.size ≤ maxLen := by rw [zat]; decide
end Go.Proofs.YtebfoimbdljbmaaGreatDoor

/-
  What the program's Canon of entities comes to. The conditions: the entities lie in memory as they should, none is nested deeper than a million.
-/
namespace Go.Proofs.YtebfoimbdljbmaaGreatDoor
open Go.RowKit
/-! ### what is taken so far -/
theorem oneE_good {us : List Uid} {x : Ent} (h : x.av.kind = 6) (hb : x.av.canon.2 = 0) (hp : x.ps.any (fun p => !(idx us p).isSome) = false) : oneE us x = (⟨x.uid, sortU ordU x.ps, x.av.canon.1⟩, 0) := by
 have : x.ps.all (fun p => (idx us p).isSome) = true := by
  rw [List.all_eq_true]
  intro p hp1
  have := (List.any_eq_false.1 hp) p hp1
  cases hi : idx us p with
  | none => rw [hi] at this; simp at this
  | some i => rfl
 simp only [oneE, h, hb, this]; rfl
def za1 (u : Uid) (v : Value) (av : List Value) : List Value := .string u.1 :: .string u.2 :: v :: av
def CompE (cB : Nat) (w7 : World) (d : List Uid) (v : Value) (W : World) : Prop :=
 Below cB w7 W ∧ w7.drawn ≤ W.drawn ∧ ∃ xs', W.ownsRow cB 23 2 v d.length xs' ∧ uidR.Flat (fun _ => True) W d xs'
def StageE (cB : Nat) (w7 : World) (d : List Uid) (u : Uid) (av : List Value) (base : Nat) (out : Value) (n : Nat) (xs : List Value) : List Value → World → Prop
 | [], W => Ext w7 W
 | [v1], W => CompE cB w7 d v1 W
 | [v1, e], W => CompE cB w7 d v1 W ∧ e = .agg (za1 u v1 av).toArray
 | [v1, e, bl], W => ∃ W1, CompE cB w7 d v1 W1 ∧ e = .agg (za1 u v1 av).toArray ∧ bl = .slice (some ⟨W1.heap.size, 0, none⟩) 1 1 ∧ W = W1.alloc (.cells (za1 u v1 av).toArray 87)
 | [v1, _, _, v2], W => ∃ W1, CompE cB w7 d v1 W1 ∧ W.ownsRow base 87 11 v2 (n + 1) (xs ++ za1 u v1 av) ∧ GrownBy (W1.alloc (.cells (za1 u v1 av).toArray 87)) W out.ownBlock ∧
   (v2.ownBlock = out.ownBlock ∨ v2.ownBlock = some (W1.alloc (.cells (za1 u v1 av).toArray 87)).heap.size)
 | _, _ => False
theorem StageE.old {cB : Nat} {w7 : World} {d : List Uid} {u : Uid} {av : List Value} {base : Nat} {out : Value} {n : Nat} {xs vs : List Value} {W : World} (h : StageE cB w7 d u av base out n xs vs W) {c1 : Nat} (hb : ∀ b, out.ownBlock = some b → b < c1) (hc : cB ≤ w7.heap.size) :
  ∀ b, c1 ≤ b → b < cB → W.heap[b]? = w7.heap[b]? := by
 intro b h1 h2
 match vs, h with
 | [], h => exact (show Ext w7 W from h).block b (by omega)
 | [v1], h => exact h.1.block b h2
 | [v1, e], h => exact h.1.1.block b h2
 | [v1, e, bl], ⟨W1, hk, _, _, e'⟩ =>
  subst e'
  rw [heap_alloc_old _ _ (Nat.lt_of_lt_of_le (Nat.lt_of_lt_of_le h2 hc) hk.1.size)]
  exact hk.1.block b h2
 | [v1, e, bl, v2], ⟨W1, hk, _, hg, _⟩ =>
  have h3 : b < W1.heap.size := Nat.lt_of_lt_of_le (Nat.lt_of_lt_of_le h2 hc) hk.1.size
  rw [hg.block b (by simp; omega) (fun e => by have := hb b e.symm; omega), heap_alloc_old _ _ h3]
  exact hk.1.block b h2
 | _ :: _ :: _ :: _ :: _ :: _, h => exact h.elim
end Go.Proofs.YtebfoimbdljbmaaGreatDoor

/-
  Entities one above the other: what is to be told of them. No program in sight. The conditions: none (definitions and lemmas).
-/
namespace Go.Proofs.YtebfoimbdljbmaaGreatDoor
open Go.RowKit
def tU : ByteArray := ⟨#[85]⟩
def tA : ByteArray := ⟨#[97]⟩
def recV : Val := .mk 6 false 0 empty empty empty [] []
section
variable {k : Nat} {close missing : Bool} {m : List Ent}
end
end Go.Proofs.YtebfoimbdljbmaaGreatDoor

/-
  Entities as they must be: their order does not matter, nor do their parents'; told again they stay as they are. No program in sight. The conditions: none (definitions and lemmas).
-/
namespace Go.Proofs.YtebfoimbdljbmaaGreatDoor
def GoodE (us : List Uid) (e : Ent) : Prop := e.av.kind = 6 ∧ e.av.canon.2 = 0 ∧ ∀ p ∈ e.ps, p ∈ us
def putE (e : Ent) : Ent := ⟨e.uid, sortU ordU e.ps, e.av.canon.1⟩
theorem oneE_of {us : List Uid} {e : Ent} (h : GoodE us e) : oneE us e = (putE e, 0) := by
 refine oneE_good h.1 h.2.1 (List.any_eq_false.2 fun p hp => ?_)
 obtain ⟨i, hi⟩ := idx_mem.1 (h.2.2 p hp)
 rw [hi]; simp
theorem onesE_of {us : List Uid} : ∀ {l : List Ent}, (∀ e ∈ l, GoodE us e) → onesE us l = (l.map putE, 0)
 | [], _ => rfl
 | e :: r, h => by
  have h1 := oneE_of (h e (by simp))
  have h2 := onesE_of (l := r) fun x hx => h x (by simp [hx])
  simp [onesE, h1, h2]
structure Good (l : List Ent) : Prop where
 len : l.length ≤ 4096
 names : (l.map Ent.uid).Nodup
 ones : ∀ e ∈ l, GoodE (l.map Ent.uid) e
 round : ¬ Rounded l
theorem canonE_of {l : List Ent} (h : Good l) : canonE l = (sortU cmpE (l.map putE), 0) := by
 unfold canonE
 rw [if_neg (by have := h.len; omega), if_neg (fun k => k h.names), onesE_of h.ones, if_neg (by simp), if_neg h.round]
/-! ### the same, in another order -/
structure Alter (l m : List Ent) : Prop where
 len : m.length = l.length
 names : (m.map Ent.uid).Perm (l.map Ent.uid)
 there : ∀ e ∈ l, ∃ f ∈ m, f.uid = e.uid ∧ f.av = e.av ∧ ∀ p, p ∈ f.ps ↔ p ∈ e.ps
 back : ∀ f ∈ m, ∃ e ∈ l, f.uid = e.uid ∧ f.av = e.av ∧ ∀ p, p ∈ f.ps ↔ p ∈ e.ps
theorem Alter.symm {l m : List Ent} (h : Alter l m) : Alter m l :=
 ⟨h.len.symm, h.names.symm, fun f hf => let ⟨e, he, h1, h2, h3⟩ := h.back f hf; ⟨e, he, h1.symm, h2.symm, fun p => (h3 p).symm⟩, fun e he => let ⟨f, hf, h1, h2, h3⟩ := h.there e he; ⟨f, hf, h1.symm, h2.symm, fun p => (h3 p).symm⟩⟩
theorem Alter.good {l m : List Ent} (h : Alter l m) (hl : Good l) : Good m := by
 refine ⟨by rw [h.len]; exact hl.len, h.names.nodup_iff.2 hl.names, fun f hf => ?_, fun hr => hl.round (Rounded.congr (fun f hf => ?_) hr)⟩
 ·obtain ⟨e, he, h1, h2, h3⟩ := h.back f hf
  obtain ⟨k1, k2, k3⟩ := hl.ones e he
  exact ⟨by rw [h2]; exact k1, by rw [h2]; exact k2, fun p hp => h.names.mem_iff.2 (k3 p ((h3 p).1 hp))⟩
 ·obtain ⟨e, he, h1, _, h3⟩ := h.back f hf
  exact ⟨e, he, h1.symm, fun p hp => (h3 p).1 hp⟩
theorem sortU_names_mem {l : List Uid} {p : Uid} : p ∈ sortU ordU l ↔ p ∈ l := sortU_mem (P := fun _ => True) (fun _ _ _ _ h => ordU_eq h) (fun _ _ => trivial) p
theorem sortU_names {a b : List Uid} (h : ∀ p, p ∈ a ↔ p ∈ b) : sortU ordU a = sortU ordU b :=
 zb8 GoodAt.ordU (zbv GoodAt.ordU a) (zbv GoodAt.ordU b) fun p => by rw [sortU_names_mem, sortU_names_mem, h]
theorem putE_uids (l : List Ent) : (l.map putE).map Ent.uid = l.map Ent.uid := by
 rw [List.map_map]; rfl
theorem byUid_eq {l : List Ent} (hn : (l.map Ent.uid).Nodup) {x y : Ent} (hx : x ∈ l) (hy : y ∈ l) (h : cmpE x y = 0) : x = y := by
 have he := ordU_eq h
 obtain ⟨i, hi⟩ := List.mem_iff_getElem?.1 hx
 obtain ⟨j, hj⟩ := List.mem_iff_getElem?.1 hy
 have h1 := zb6 hn (i := i) (u := x.uid) (by simp [hi])
 have h2 := zb6 hn (i := j) (u := x.uid) (by simp [hj, he])
 rw [h1] at h2
 obtain rfl := Option.some.inj h2
 rw [hi] at hj
 exact Option.some.inj hj
theorem sortE_mem {l : List Ent} (hn : (l.map Ent.uid).Nodup) (x : Ent) : x ∈ sortU cmpE l ↔ x ∈ l := sortU_mem (P := fun x => x ∈ l) (fun _ _ hx hy h => byUid_eq hn hx hy h) (fun _ h => h) x
theorem Alter.same {l m : List Ent} (h : Alter l m) (hl : Good l) : (canonE m).1 = (canonE l).1 := by
 have hm := h.good hl
 rw [canonE_of hl, canonE_of hm]
 have n1 : ((l.map putE).map Ent.uid).Nodup := by rw [putE_uids]; exact hl.names
 have n2 : ((m.map putE).map Ent.uid).Nodup := by rw [putE_uids]; exact hm.names
 refine zb8 GoodAt.cmpE (zbv GoodAt.cmpE _) (zbv GoodAt.cmpE _) fun x => ?_
 rw [sortE_mem n1, sortE_mem n2, List.mem_map, List.mem_map]
 have key : ∀ {e f : Ent}, f.uid = e.uid → f.av = e.av → (∀ p, p ∈ f.ps ↔ p ∈ e.ps) → putE f = putE e := fun {e f} h1 h2 h3 => by
  unfold putE
  rw [h1, h2, sortU_names h3]
 constructor
 ·rintro ⟨f, hf, rfl⟩
  obtain ⟨e, he, h1, h2, h3⟩ := h.back f hf
  exact ⟨e, he, (key h1 h2 h3).symm⟩
 ·rintro ⟨e, he, rfl⟩
  obtain ⟨f, hf, h1, h2, h3⟩ := h.there e he
  exact ⟨f, hf, key h1 h2 h3⟩
/-! ### told again -/
end Go.Proofs.YtebfoimbdljbmaaGreatDoor

/-
  What layer 5's awake comes to: true. The conditions: none.
-/
namespace Go.Proofs.YtebfoimbdljbmaaGreatDoor
open Go.RowKit
def recC : List Value := [.int .i64 6, .bool false, .int .i64 0, .string ByteArray.empty, .string ByteArray.empty, .string ByteArray.empty, .slice none 0 0, .slice none 0 0]
/-! ### single operations -/
theorem heap2 (w : World) (o0 o1 : Obj) : ((w.alloc o0).alloc o1).heap[w.heap.size]? = some o0 ∧ ((w.alloc o0).alloc o1).heap[w.heap.size + 1]? = some o1 ∧ ((w.alloc o0).alloc o1).heap.size = w.heap.size + 2 ∧ Ext w ((w.alloc o0).alloc o1) := by
 refine ⟨?_, ?_, by simp, ((Ext.refl w).alloc _).alloc _⟩ <;> (simp only [World.alloc, Array.getElem?_push, Array.size_push]; (repeat rw [if_neg (by omega)]); simp)
/-! ### how far the last statement is -/
def entZ (s : Nat) : Value := .agg #[.string tU, .string tA, .slice (some ⟨s, 0, none⟩) 1 1, .int .i64 0, .bool false, .int .i64 0, .string ByteArray.empty, .string ByteArray.empty, .string ByteArray.empty, .slice none 0 0, .slice none 0 0]
def vals5 (s : Nat) : List Value := [.int .i64 (-1), .bool true, .bool true, .bool true, .slice (some ⟨s, 0, none⟩) 1 1, entZ s, .slice (some ⟨s + 1, 0, none⟩) 1 1, .bool true, .bool true]
def obj1 : Obj := .cells #[.string tU, .string tA] 23
def obj2 (s : Nat) : Obj := .cells #[.string tU, .string tA, .slice (some ⟨s, 0, none⟩) 1 1, .int .i64 0, .bool false, .int .i64 0, .string ByteArray.empty, .string ByteArray.empty, .string ByteArray.empty, .slice none 0 0, .slice none 0 0] 87
structure Stage5 (w9 : World) (vs : List Value) (W : World) : Prop where
 ex : ∃ W1, Ext w9 W1 ∧ vs = (vals5 W1.heap.size).take vs.length ∧ (vs.length ≤ 4 → W = W1) ∧ (vs.length = 5 ∨ vs.length = 6 → W = W1.alloc obj1) ∧ (vs.length = 7 → W = (W1.alloc obj1).alloc (obj2 W1.heap.size)) ∧ (8 ≤ vs.length → Ext w9 W)
section
variable {w9 : World} {vs : List Value} {W : World}
theorem Stage5.ext (h : Stage5 w9 vs W) : Ext w9 W := by
 obtain ⟨W1, h1, _, h3, h4, h5, h6⟩ := h.ex
 rcases (by omega : vs.length ≤ 4 ∨ (vs.length = 5 ∨ vs.length = 6) ∨ vs.length = 7 ∨ 8 ≤ vs.length) with h | h | h | h
 ·rw [h3 h]; exact h1
 ·rw [h4 h]; exact h1.alloc _
 ·rw [h5 h]; exact (h1.alloc _).alloc _
 ·exact h6 h
theorem Stage5.at (h : Stage5 w9 vs W) {k : Nat} {v : Value} (hk : k < vs.length) (hv : ∀ s, (vals5 s)[k]? = some v) : vs.getD k undef = v := by
 obtain ⟨W1, _, h2, _⟩ := h.ex
 have h3 : vs[k]? = some v := by
  conv => lhs; rw [h2]
  rw [List.getElem?_take, if_pos hk]; exact hv _
 rw [List.getD_eq_getElem?_getD, h3]; rfl
theorem vals5_snoc {s n : Nat} {vs : List Value} {v : Value} (h : vs = (vals5 s).take vs.length) (hn : vs.length = n) (hv : (vals5 s)[n]? = some v) : vs ++ [v] = (vals5 s).take (vs ++ [v]).length := by
 rw [List.length_append, hn, List.length_singleton, zbi hv, ← hn, ← h]
theorem Stage5.next (h : Stage5 w9 vs W) {k : Nat} {v : Value} (hl : vs.length = k) (hk : k ≤ 3) (hv : ∀ s, (vals5 s)[k]? = some v) : Stage5 w9 (vs ++ [v]) W := by
 obtain ⟨W1, h1, h2, h3, _⟩ := h.ex
 exact ⟨W1, h1, vals5_snoc h2 hl (hv _), fun _ => h3 (by omega), fun h => by simp at h; omega, fun h => by simp at h; omega, fun h => by simp at h; omega⟩
end
end Go.Proofs.YtebfoimbdljbmaaGreatDoor
