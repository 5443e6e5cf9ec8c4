/-
  Copies of values, of entities: each is a thing of its own that reads as the old one. The conditions: they lie in memory as they should.
-/
import Derived.Test.YtebfoimbdljbmaaGreatDoorGe
import Derived.Test.YtebfoimbdljbmaaGreatDoorGd
import Derived.Test.YtebfoimbdljbmaaGreatDoorGh
import Derived.Test.YtebfoimbdljbmaaGreatDoorGc
namespace Go.Proofs.YtebfoimbdljbmaaGreatDoor
open Go.RowKit
theorem Rep.Flat.join {α : Type} {R : Rep α} {S : Nat → Prop} {w : World} : ∀ {l : List α} {yss : List (List Value)}, yss.length = l.length → (∀ (i : Nat) (x : α) (y : List Value), l[i]? = some x → yss[i]? = some y → R.At S w x y) → R.Flat S w l yss.flatten
 | [], yss, h, _ => by
  have : yss = [] := List.eq_nil_of_length_eq_zero (by simpa using h)
  subst this; rfl
 | x :: r, [], h, _ => by simp at h
 | x :: r, y :: yss, h, k => ⟨y, yss.flatten, by simp, k 0 x y rfl rfl, Rep.Flat.join (by simpa using h) fun i z u hz hu => k (i + 1) z u (by simpa using hz) (by simpa using hu)⟩
theorem flatten_put {sz : Nat} : ∀ {yss : List (List Value)} {j : Nat} {c : List Value}, (∀ y ∈ yss, y.length = sz) → c.length = sz → j < yss.length → yss.flatten.take (j * sz) ++ c ++ yss.flatten.drop (j * sz + sz) = (yss.set j c).flatten
 | [], _, _, _, _, h => by simp at h
 | y :: yss, 0, c, hl, hc, _ => by
  have h1 := hl y (by simp)
  simp only [Nat.zero_mul, List.take_zero, List.nil_append, Nat.zero_add, List.flatten_cons, List.set_cons_zero]
  rw [List.drop_append_of_le_length (by omega), List.drop_eq_nil_of_le (by omega), List.nil_append]
 | y :: yss, j + 1, c, hl, hc, h => by
  have h1 := hl y (by simp)
  have ih := flatten_put (yss := yss) (j := j) (c := c) (fun z hz => hl z (by simp [hz])) hc (by simpa using h)
  simp only [List.flatten_cons, List.set_cons_succ]
  rw [← ih, Nat.succ_mul, List.take_append, List.take_of_length_le (l := y) (by omega), List.drop_append, (List.drop_eq_nil_of_le (by omega) : y.drop (j * sz + sz + sz) = []), List.nil_append]
  rw [show j * sz + sz - y.length = j * sz by omega, show j * sz + sz + sz - y.length = j * sz + sz by omega]
  simp [List.append_assoc]
theorem ownsRow_write {w w' : World} {base : Nat} {T : TypeId} {sz n g cap j : Nat} {yss : List (List Value)} {c : List Value} {cur : Array Value} (h : w.ownsRow base T sz (.slice (some ⟨g, 0, none⟩) n cap) n yss.flatten) (hl : ∀ y ∈ yss, y.length = sz) (hn : yss.length = n) (hc : c.length = sz) (hj : j < n)
  (hg : w.heap[g]? = some (.cells cur T (0, 0))) (hw : w'.heap[g]? = some (.cells (cur.toList.take (j * sz) ++ c ++ cur.toList.drop (j * sz + c.length)).toArray T (0, 0))) : w'.ownsRow base T sz (.slice (some ⟨g, 0, none⟩) n cap) n (yss.set j c).flatten := by
 obtain ⟨h1, hv⟩ := h
 rcases hv with ⟨hv, _⟩ | ⟨g', cap', cur', hv, hge, hh, hnc, hcm, hcur, htake⟩
 ·cases hv
 ·injection hv with e1 _ e3
  injection e1 with e1
  injection e1 with e1 _
  subst e1 e3
  rw [hg] at hh
  injection hh with hh
  injection hh with hh _ _
  subst hh
  have hm : (j + 1) * sz ≤ n * sz := Nat.mul_le_mul_right _ hj
  have hm2 : n * sz ≤ cap * sz := Nat.mul_le_mul_right _ hnc
  rw [Nat.succ_mul] at hm
  have hcl : cur.toList.length = cap * sz := by simpa using hcur
  have hset := flatten_put hl hc (by omega : j < yss.length)
  rw [← htake] at hset h1
  refine ⟨?_, .inr ⟨_, _, _, rfl, hge, hw, hnc, hcm, ?_, ?_⟩⟩
  ·rw [← hset]
   simp [List.length_take, List.length_drop]; omega
  ·simp [List.length_take, List.length_drop]; omega
  ·rw [← hset, hc]
   have hA : (cur.toList.take (j * sz)).length = j * sz := by rw [List.length_take]; omega
   rw [List.append_assoc, List.append_assoc, List.take_append, List.take_of_length_le (l := cur.toList.take (j * sz)) (by omega), hA, List.take_append, List.take_of_length_le (l := c) (by omega), hc, List.take_take, Nat.min_eq_left (by omega), List.drop_take, Nat.sub_sub]
end Go.Proofs.YtebfoimbdljbmaaGreatDoor

/-
  The program's copy of a value. The conditions: the value lies in memory as it should.
-/
namespace Go.Proofs.YtebfoimbdljbmaaGreatDoor
open Go.RowKit
structure CopySt (k : Int) (bo : Bool) (i : Int) (t ut ui : ByteArray) (B1 : Nat) (w1 : World) (it nm : Value) (W : World) : Prop where
 box : W.heap[B1]? = some (.cells #[.int .i64 k, .bool bo, .int .i64 i, .string t, .string ut, .string ui, it, nm] 27 (0, 0))
 grown : GrownBy w1 W (some B1)
def NamesAt (w1 : World) (names : List ByteArray) (v : Value) (W : World) : Prop := W.ownsRow w1.heap.size 9 1 v names.length (names.map Value.string)
def ItemsAt (S : Nat → Prop) (w1 : World) (items : List Val) (v : Value) (W : World) : Prop := ∃ xs, W.ownsRow w1.heap.size 27 8 v items.length xs ∧ valR.Flat S w1 items xs
theorem CopySt.ext {k : Int} {bo : Bool} {i : Int} {t ut ui : ByteArray} {B1 : Nat} {w1 : World} {it nm : Value} {W W' : World} (h : CopySt k bo i t ut ui B1 w1 it nm W) (x : Ext W W') : CopySt k bo i t ut ui B1 w1 it nm W' :=
 ⟨(x.block _ (zaf h.box)).trans h.box, h.grown.trans (GrownBy.of_ext _ x)⟩
theorem ItemsAt.ext {S : Nat → Prop} {w1 : World} {items : List Val} {v : Value} {W W' : World} (h : ItemsAt S w1 items v W) (x : Ext W W') : ItemsAt S w1 items v W' := let ⟨xs, h1, h2⟩ := h; ⟨xs, zah h1 x, h2⟩
theorem NamesAt.apart {w1 : World} {names : List ByteArray} {v : Value} {W W' : World} {B : Nat} (h : NamesAt w1 names v W) (g : GrownBy W W' (some B)) (hB : B < w1.heap.size) : NamesAt w1 names v W' :=
 zaj h g fun b hb e => by have := (h.lt b hb).1; injection e with e; omega
theorem ItemsAt.apart {S : Nat → Prop} {w1 : World} {items : List Val} {v : Value} {W W' : World} {B : Nat} (h : ItemsAt S w1 items v W) (g : GrownBy W W' (some B)) (hB : B < w1.heap.size) : ItemsAt S w1 items v W' := by
 obtain ⟨xs, h1, h2⟩ := h
 exact ⟨xs, zaj h1 g fun b hb e => by have := (h1.lt b hb).1; injection e with e; omega, h2⟩
def FreshU (base : Nat) (w : World) (b : Nat) : Prop := base ≤ b ∧ ∃ cur T, w.heap[b]? = some (.cells cur T (0, 0))
def MadeU (base : Nat) (w : World) (v : Value) (b : Nat) : Prop := base ≤ b ∧ (∃ cur T, w.heap[b]? = some (.cells cur T (0, 0))) ∧ v.ownBlock ≠ some b
theorem FreshU.lt {base : Nat} {w : World} {b : Nat} (h : FreshU base w b) : b < w.heap.size := let ⟨_, _, h⟩ := h.2; zaf h
theorem FreshU.ext {base : Nat} {w w' : World} {b : Nat} (h : FreshU base w b) (x : Ext w w') : FreshU base w' b := let ⟨c, T, k⟩ := h.2; ⟨h.1, c, T, (x.block b (zaf k)).trans k⟩
theorem FreshU.grown {base : Nat} {w w' : World} {b : Nat} {r : Option Nat} (h : FreshU base w b) (x : GrownBy w w' r) (hr : some b ≠ r) : FreshU base w' b := let ⟨c, T, k⟩ := h.2; ⟨h.1, c, T, (x.block b (zaf k) hr).trans k⟩
theorem MadeU.lt {base : Nat} {w : World} {v : Value} {b : Nat} (h : MadeU base w v b) : b < w.heap.size := let ⟨_, _, h⟩ := h.2.1; zaf h
theorem MadeU.fresh {base : Nat} {w : World} {v : Value} {b : Nat} (h : MadeU base w v b) : FreshU base w b := ⟨h.1, h.2.1⟩
theorem own_free {w : World} {base : Nat} {T : TypeId} {sz n : Nat} {v : Value} {xs : List Value} (h : w.ownsRow base T sz v n xs) {b : Nat} (hb : v.ownBlock = some b) : FreshU base w b := by
 obtain ⟨_, hv⟩ := h
 rcases hv with ⟨rfl, _⟩ | ⟨g, cap, cur, rfl, hge, hh, _⟩
 ·cases hb
 ·obtain rfl : g = b := Option.some.inj hb
  exact ⟨hge, cur, T, hh⟩
def MixAt (S : Nat → Prop) (w1 : World) (items : List Val) (j : Nat) (v : Value) (W : World) : Prop :=
 ∃ yss : List (List Value), W.ownsRow w1.heap.size 27 8 v items.length yss.flatten ∧ yss.length = items.length ∧ (∀ y ∈ yss, y.length = 8 ∧ ∀ u ∈ y, u.oneCell' = true) ∧
  ∀ (a : Nat) (x : Val) (y : List Value), items[a]? = some x → yss[a]? = some y → if a < j then Val.At (MadeU w1.heap.size W v) W x y else Val.At S w1 x y
theorem MixAt.ext {S : Nat → Prop} {w1 : World} {items : List Val} {j : Nat} {v : Value} {W W' : World} (h : MixAt S w1 items j v W) (x : Ext W W') : MixAt S w1 items j v W' := by
 obtain ⟨yss, h1, h2, h3, h4⟩ := h
 refine ⟨yss, zah h1 x, h2, h3, fun a z y hz hy => ?_⟩
 have h5 := h4 a z y hz hy
 by_cases ha : a < j
 ·rw [if_pos ha] at h5 ⊢
  exact (h5.alike (Alike.of_ext x fun b hb => hb.lt)).mono fun b hb => ⟨hb.1, (hb.fresh.ext x).2, hb.2.2⟩
 ·rw [if_neg ha] at h5 ⊢
  exact h5
theorem MixAt.old {S : Nat → Prop} {w1 : World} {items : List Val} {j g n cap : Nat} {W : World} (h : MixAt S w1 items j (.slice (some ⟨g, 0, none⟩) n cap) W) {x : Val} (hx : items[j]? = some x) : ∃ y, CellsAt W g (j * 8) y ∧ Val.At S w1 x y ∧ y.length = 8 := by
 obtain ⟨yss, h1, h2, h3, h4⟩ := h
 have hj := (List.getElem?_eq_some_iff.1 hx).1
 obtain ⟨y, hy⟩ : ∃ y, yss[j]? = some y := ⟨_, List.getElem?_eq_getElem (by omega)⟩
 have h5 := h4 j x y hx hy
 rw [if_neg (by omega)] at h5
 obtain ⟨g', cap', hv, hg, hnc, hcm, hc⟩ := own_cells h1 (by omega)
 injection hv with e1 _ _
 injection e1 with e1
 injection e1 with e1 _
 subst e1
 refine ⟨y, fun a u ha => ?_, h5, (h3 y (List.mem_of_getElem? hy)).1⟩
 have := hc (j * 8 + a) u (flatten_getK (fun r hr => (h3 r hr).1) hy ha)
 rwa [Nat.zero_add] at this
theorem MixAt.next {S : Nat → Prop} {w1 : World} {items : List Val} {j g n cap : Nat} {W W2 W3 : World} {x : Val} {c : List Value} {cur : Array Value} (h : MixAt S w1 items j (.slice (some ⟨g, 0, none⟩) n cap) W) (hx : items[j]? = some x) (k : Ext W W2) (hc : Val.At (FreshU W.heap.size W2) W2 x c)
  (hg : W2.heap[g]? = some (.cells cur 27 (0, 0))) (hw : W3.heap[g]? = some (.cells (cur.toList.take (j * 8) ++ c ++ cur.toList.drop (j * 8 + c.length)).toArray 27 (0, 0))) (hgr : GrownBy W2 W3 (some g)) : MixAt S w1 items (j + 1) (.slice (some ⟨g, 0, none⟩) n cap) W3 := by
 obtain ⟨yss, h1, h2, h3, h4⟩ := h.ext k
 have hj := (List.getElem?_eq_some_iff.1 hx).1
 have hlt := (h1.lt g rfl)
 have hlt0 : g < W.heap.size := by
  obtain ⟨_, h1', _⟩ := h
  exact (h1'.lt g rfl).2
 have hb : w1.heap.size ≤ W.heap.size := by omega
 have h9 : n = items.length := by
  obtain ⟨A', c', e⟩ := zap h1
  injection e
 subst h9
 have hs3 := hgr.size
 refine ⟨yss.set j c, ownsRow_write h1 (fun y hy => (h3 y hy).1) h2 hc.length hj hg hw, by simpa using h2, fun y hy => ?_, fun a z y hz hy => ?_⟩
 ·rcases List.mem_or_eq_of_mem_set hy with hy | rfl
  ·exact h3 y hy
  ·exact ⟨hc.length, hc.one⟩
 ·by_cases ha : a = j
  ·subst ha
   rw [List.getElem?_set_self (by omega)] at hy
   obtain rfl := Option.some.inj hy
   rw [hx] at hz
   obtain rfl := Option.some.inj hz
   rw [if_pos (by omega)]
   refine Val.At.mono (S := FreshU W.heap.size W2) ?_ _ _ (hc.alike fun b hb => hgr.block b hb.lt fun e => by injection e with e; have := hb.1; omega)
   intro b hb'
   have e1 := hb'.1
   exact ⟨by omega, (hb'.grown hgr fun e => by injection e with e; omega).2, fun e => by have e3 : g = b := Option.some.inj (show some g = some b from e); omega⟩
  ·rw [List.getElem?_set_ne (Ne.symm ha)] at hy
   have h5 := h4 a z y hz hy
   by_cases hlt2 : a < j
   ·rw [if_pos hlt2] at h5
    rw [if_pos (by omega)]
    refine Val.At.mono (S := MadeU w1.heap.size W2 (.slice (some ⟨g, 0, none⟩) items.length cap)) ?_ _ _ (h5.alike fun b hb => hgr.block b hb.lt fun e => by injection e with e; exact hb.2.2 (by subst e; rfl))
    intro b hb'
    exact ⟨hb'.1, (hb'.fresh.grown hgr fun e => by injection e with e; exact hb'.2.2 (by subst e; rfl)).2, hb'.2.2⟩
   ·rw [if_neg hlt2] at h5
    rw [if_neg (by omega)]
    exact h5
theorem MixAt.all {S : Nat → Prop} {w1 : World} {items : List Val} {v : Value} {W : World} (h : MixAt S w1 items items.length v W) : ∃ xs, W.ownsRow w1.heap.size 27 8 v items.length xs ∧ valR.Flat (MadeU w1.heap.size W v) W items xs := by
 obtain ⟨yss, h1, h2, h3, h4⟩ := h
 refine ⟨_, h1, Rep.Flat.join h2 fun a x y hx hy => ?_⟩
 have h5 := h4 a x y hx hy
 rw [if_pos (List.getElem?_eq_some_iff.1 hx).1] at h5
 exact h5
theorem CopySt.apart {k : Int} {bo : Bool} {i : Int} {t ut ui : ByteArray} {B1 : Nat} {w1 : World} {it nm : Value} {W W' : World} (h : CopySt k bo i t ut ui B1 w1 it nm W) {g : Nat} (x : GrownBy W W' (some g)) (hg : w1.heap.size ≤ g) (hB : B1 < w1.heap.size) : CopySt k bo i t ut ui B1 w1 it nm W' :=
 ⟨(x.block _ (zaf h.box) fun e => by injection e with e; omega).trans h.box, ⟨⟨x.os.trans h.grown.os, x.tape.trans h.grown.tape, x.output.trans h.grown.output, Nat.le_trans h.grown.size x.size, fun b hb hne => (x.block b (Nat.lt_of_lt_of_le hb h.grown.size) fun e => by injection e with e; omega).trans (h.grown.block b hb hne)⟩, Nat.le_trans h.grown.drawn x.drawn⟩⟩
end Go.Proofs.YtebfoimbdljbmaaGreatDoor

/-
  What is above what over any number of steps; what a marking that goes upwards leaves. No program in sight. The conditions: none (definitions and lemmas).
-/
namespace Go.Proofs.YtebfoimbdljbmaaGreatDoor
inductive UpTo (l : List Ent) : Uid → Uid → Prop
 | one {u v : Uid} : Above l u v → UpTo l u v
 | more {u v q : Uid} : UpTo l u v → Above l v q → UpTo l u q
theorem UpTo.trans {l : List Ent} {u v q : Uid} (h : UpTo l u v) (k : UpTo l v q) : UpTo l u q := by
 induction k with
 | one h1 => exact h.more h1
 | more _ h1 ih => exact ih.more h1
theorem UpTo.names {l : List Ent} {u q : Uid} (h : UpTo l u q) : u ∈ l.map Ent.uid ∧ q ∈ l.map Ent.uid := by
 induction h with
 | one h1 => obtain ⟨e, he, rfl, _, h2⟩ := h1; exact ⟨List.mem_map.2 ⟨e, he, rfl⟩, h2⟩
 | more _ h1 ih => obtain ⟨e, he, _, _, h2⟩ := h1; exact ⟨ih.1, h2⟩
/-! ### marking -/
def leftN (us : List Uid) (m : Uid → Bool) : Nat := us.countP fun q => !m q
theorem leftN_mark {us : List Uid} {m : Uid → Bool} {p : Uid} (hp : p ∈ us) (hm : m p = false) : leftN us (fun q => decide (q = p) || m q) + 1 ≤ leftN us m := by
 induction us with
 | nil => simp at hp
 | cons x r ih =>
  unfold leftN at ih ⊢
  rw [List.countP_cons, List.countP_cons]
  by_cases hx : x = p
  ·subst hx
   have h1 : r.countP (fun q => !(decide (q = x) || m q)) ≤ r.countP (fun q => !m q) := List.countP_mono_left fun q _ hq => by
    cases hmq : m q with
    | false => rfl
    | true => rw [hmq] at hq; simp at hq
   simp [hm]
   simpa using h1
  ·rcases List.mem_cons.1 hp with h | h
   ·exact absurd h.symm hx
   ·have h1 := ih h
    have h2 : (!(decide (x = p) || m x)) = !m x := by simp [hx]
    dsimp only at h1 ⊢
    rw [h2]
    omega
structure Marked (c : List Ent) (s : Uid) (k : Nat) (e : Ent) (m m' : Uid → Bool) : Prop where
 old : ∀ q, m q = true → m' q = true
 par : ∀ (i : Nat) (p : Uid), i < k → e.ps[i]? = some p → m' p = true
 new : ∀ q, m' q = true → m q = true ∨ (UpTo c s q ∧ ∀ r, Above c q r → m' r = true)
theorem Marked.step {c : List Ent} (hn : (c.map Ent.uid).Nodup) {s : Uid} {k : Nat} {e f : Ent} {m m' m2 : Uid → Bool} (h : Marked c s k e m m') {p : Uid} (hp : e.ps[k]? = some p) (hf : f ∈ c) (hfp : f.uid = p) (hup : UpTo c s p)
  (h2 : Marked c p f.ps.length f (fun q => decide (q = p) || m' q) m2) : Marked c s (k + 1) e m m2 := by
 have hp2 : m2 p = true := h2.old p (by simp)
 have hold : ∀ q, m' q = true → m2 q = true := fun q hq => h2.old q (by simp [hq])
 refine ⟨fun q hq => hold q (h.old q hq), fun i q hi hq => ?_, fun q hq => ?_⟩
 ·by_cases he : i = k
  ·subst he; rw [hp] at hq; cases hq; exact hp2
  ·exact hold q (h.par i q (by omega) hq)
 ·rcases h2.new q hq with h3 | ⟨h3, h4⟩
  ·simp only [Bool.or_eq_true, decide_eq_true_eq] at h3
   rcases h3 with rfl | h3
   ·refine .inr ⟨hup, fun r hr => ?_⟩
    obtain ⟨g, hg, hgu, hgr, _⟩ := hr
    have : g = f := by
     have hu : g.uid = f.uid := by rw [hgu, hfp]
     exact byUid_eq hn hg hf (by unfold cmpE; rw [hu]; exact ordU_self _)
    subst this
    obtain ⟨i, hi⟩ := List.mem_iff_getElem?.1 hgr
    exact h2.par i r (List.getElem?_eq_some_iff.1 hi).1 hi
   ·rcases h.new q h3 with h4 | ⟨h4, h5⟩
    ·exact .inl h4
    ·exact .inr ⟨h4, fun r hr => hold r (h5 r hr)⟩
  ·exact .inr ⟨hup.trans h3, h4⟩
theorem Marked.all {c : List Ent} (hn : (c.map Ent.uid).Nodup) {e : Ent} (he : e ∈ c) (hpar : ∀ p ∈ e.ps, p ∈ c.map Ent.uid) {m m' : Uid → Bool} (hm : ∀ q, m q = false) (h : Marked c e.uid e.ps.length e m m') (q : Uid) : m' q = true ↔ UpTo c e.uid q := by
 constructor
 ·intro hq
  rcases h.new q hq with h1 | h1
  ·rw [hm q] at h1; cases h1
  ·exact h1.1
 ·intro hq
  have hfirst : ∀ v, Above c e.uid v → m' v = true := fun v hv => by
   obtain ⟨g, hg, hgu, hgv, _⟩ := hv
   have : g = e := byUid_eq hn hg he (by unfold cmpE; rw [hgu]; exact ordU_self _)
   subst this
   obtain ⟨i, hi⟩ := List.mem_iff_getElem?.1 hgv
   exact h.par i v (List.getElem?_eq_some_iff.1 hi).1 hi
  generalize hs : e.uid = s at hq hfirst
  induction hq with
  | one h1 => exact hfirst _ h1
  | more _ h1 ih =>
   rcases h.new _ ih with h2 | ⟨_, h2⟩
   ·rw [hm] at h2; cases h2
   ·exact h2 _ h1
end Go.Proofs.YtebfoimbdljbmaaGreatDoor

/-
  Maps from pairs of names to truths: which pairs one holds; ranging over one. The conditions: none (definitions and lemmas).
-/
namespace Go.Proofs.YtebfoimbdljbmaaGreatDoor
open Go.RowKit Go.Maps
set_option maxRecDepth 100000
theorem Tryz.wideP : (match Tryz.prog.underlying 122 with | some (.array _ _) | some (.struct _) => true | _ => false) = true := by rw [Tryz.underlying122]
theorem Tryz.keyP : Tryz.prog.keyType 122 = true := by kernel_rfl
theorem Tryz.lawP : Keyed Tryz.prog 122 := Keyed.of_law (deep_law_laid Tryz.laidU (m := 3) (by omega) (of_decide_eq_true (by kernel_rfl)) (by kernel_rfl) Tryz.wideP)
theorem Tryz.zeroB (w : World) : (zeroValue 4).run Tryz.prog w = .ok (.bool false) w := by kernel_rfl
theorem Tryz.cellsP : Tryz.prog.cellsOf 122 = 4 := by kernel_rfl
theorem Tryz.typesP : ∃ n, Tryz.prog.types.size + 1 = n + 3 := ⟨Tryz.prog.types.size - 2, by have : 2 ≤ Tryz.prog.types.size := of_decide_eq_true (by kernel_rfl); omega⟩
abbrev zby := Uid × Uid
def FitP (p : zby) : Prop := zaw p.1 ∧ zaw p.2
def valP (p : zby) : Value := .agg #[.string p.1.1, .string p.1.2, .string p.2.1, .string p.2.2]
def litP (p : zby) : Lit := .string (keyBytes [.string p.1.1.data.toList, .string p.1.2.data.toList, .string p.2.1.data.toList, .string p.2.2.data.toList])
theorem keyP_lits (a b c d : Value) (n : Nat) : Tryz.prog.keyLits (n + 3) 122 [a, b, c, d] = ((Tryz.prog.keyLits (n + 2) 23 [a, b]).bind fun x => (Tryz.prog.keyLits (n + 2) 23 [c, d]).map fun y => x ++ y) := by
 conv => lhs; unfold Program.keyLits
 simp only [Tryz.underlying122, Tryz.cellsP]
 cases h1 : Tryz.prog.keyLits (n + 2) 23 [a, b] <;> cases h2 : Tryz.prog.keyLits (n + 2) 23 [c, d] <;> simp [List.range, List.range.loop, Tryz.cellsU, h1, h2]
theorem str_lits {s : ByteArray} (hs : s.size ≤ maxLen) (n : Nat) : Tryz.prog.keyLits (n + 1) 9 [.string s] = some [.string s.data.toList] := by
 unfold Program.keyLits
 simp [Tryz.underlying9, hs]
theorem uid_lits {u : Uid} (h : zaw u) (n : Nat) : Tryz.prog.keyLits (n + 2) 23 [.string u.1, .string u.2] = some [.string u.1.data.toList, .string u.2.data.toList] := by
 rw [keyU_lits, str_lits h.1, str_lits h.2]; rfl
theorem zbm {p : zby} (h : FitP p) : keyOf Tryz.prog 122 (valP p) = some (litP p) := by
 obtain ⟨n, hn⟩ := Tryz.typesP
 unfold keyOf valP litP
 simp only [Tryz.underlying122, Tryz.keyP, Value.formed, Tryz.cellsP, hn]
 simp only [Value.cells, keyP_lits, uid_lits h.1, uid_lits h.2]
 rfl
theorem litP_inj {p q : zby} (hp : FitP p) (hq : FitP q) (h : litP p = litP q) : p = q := by
 have h1 := zbm hp
 have h2 := zbm hq
 rw [h] at h1
 have := Tryz.lawP.inj h1 h2
 unfold valP at this
 obtain ⟨⟨a, b⟩, ⟨c, d⟩⟩ := p
 obtain ⟨⟨a', b'⟩, ⟨c', d'⟩⟩ := q
 injection this with this
 injection this with this
 injection this with e1 this
 injection this with e2 this
 injection this with e3 this
 injection this with e4 _
 injection e1 with e1
 injection e2 with e2
 injection e3 with e3
 injection e4 with e4
 subst e1 e2 e3 e4
 rfl
theorem bool_inv {v : Value} {z : DataW Unit × List MemPlace} (h : plainElem Tryz.prog 4 v = some z) : ∃ x, v = .bool x ∧ z = (.lit (.bool x), []) := by
 unfold plainElem at h
 rw [Tryz.underlying4] at h
 cases v <;> simp at h
 exact ⟨_, rfl, h.symm⟩
structure ReadsP (D : DataW Unit) (m : zby → Bool) : Prop where
 has : ∀ p, FitP p → Maps.has D (litP p) = m p
 at' : ∀ p, FitP p → m p = true → D.atKey (litP p) (.lit (.bool false)) = .lit (.bool true)
 keys : ∀ kl, Maps.has D kl = true → ∃ p, FitP p ∧ kl = litP p
def MapP (w : World) (b : Nat) (m : zby → Bool) (cnt : Nat) : Prop :=
 ∃ D n, w.ownsMap Tryz.prog 122 (plainElem Tryz.prog 4) b n D ∧ n ≤ 1073741824 ∧ ReadsP D m ∧ Maps.size D = cnt
theorem MapP.block {w w' : World} {b : Nat} {m : zby → Bool} {cnt : Nat} (h : MapP w b m cnt) (hb : w'.heap[b]? = w.heap[b]?) : MapP w' b m cnt := by
 obtain ⟨D, n, ⟨es, clock, h1, h2⟩, h3⟩ := h
 exact ⟨D, n, ⟨es, clock, hb.trans h1, h2⟩, h3⟩
theorem MapP.lt {w : World} {b : Nat} {m : zby → Bool} {cnt : Nat} (h : MapP w b m cnt) : b < w.heap.size := by
 obtain ⟨D, n, h1, _⟩ := h; exact h1.lt
theorem MapP.ext {w w' : World} {b : Nat} {m : zby → Bool} {cnt : Nat} (h : MapP w b m cnt) (k : Ext w w') : MapP w' b m cnt := h.block (k.block _ h.lt)
theorem MapP.congr {w : World} {b : Nat} {m m' : zby → Bool} {cnt : Nat} (h : MapP w b m cnt) (he : ∀ u, m u = m' u) : MapP w b m' cnt := by
 have : m = m' := funext he
 rw [← this]; exact h
theorem MapP.isMap {w : World} {b : Nat} {m : zby → Bool} {cnt : Nat} (h : MapP w b m cnt) : ∃ es clock, w.heap[b]? = some (.map es clock) := by
 obtain ⟨D, n, ⟨es, clock, h1, _⟩, _⟩ := h; exact ⟨es, clock, h1⟩
theorem MapP.look {w : World} {b : Nat} {m : zby → Bool} {cnt : Nat} (h : MapP w b m cnt) {p : zby} (hp : FitP p) : (Instr.lookup 83 (.map (some b)) (valP p) false).run Tryz.prog w = .ok (.bool (m p)) w := by
 obtain ⟨D, n, hown, hn, hr, hc⟩ := h
 obtain ⟨v, ps, hrun, hv⟩ := hown.lookup Tryz.lawP Tryz.underlying83 (Tryz.zeroB w) (plainElem_bool Tryz.underlying4 false) (zbm hp)
 obtain ⟨x, rfl, hx⟩ := bool_inv hv
 rw [hrun]
 congr 2
 injection hx with hx _
 cases hm : m p with
 | false =>
  have h0 := atKey_of_not_has (D := D) (k := litP p) (by rw [hr.has p hp, hm]) (.lit (.bool false))
  rw [h0] at hx
  injection hx with hx
  injection hx with hx
  exact hx.symm
 | true =>
  rw [hr.at' p hp hm] at hx
  injection hx with hx
  injection hx with hx
  exact hx.symm
theorem MapU.look {w : World} {b : Nat} {m : Uid → Option Nat} {cnt : Nat} (h : MapU w b m cnt) {u : Uid} (hu : zaw u) {i : Nat} (hi : m u = some i) : (Instr.lookup 82 (.map (some b)) (valU u) false).run Tryz.prog w = .ok (.int .i64 i) w := by
 obtain ⟨D, n, hown, hn, hr, hc, hle⟩ := h
 obtain ⟨c, hrun, hat, hwc⟩ := hown.lookup_int Tryz.lawU Tryz.underlying82 Tryz.underlying3 (Tryz.zeroI w) (zb1 hu)
 rw [hr.at' u i hu hi] at hat
 injection hat with hat
 injection hat with _ hat
 rw [hrun, ← hat]
theorem MapU.put {w : World} {b : Nat} {m : Uid → Option Nat} {cnt : Nat} (h : MapU w b m cnt) (hcnt : cnt ≤ 1048576) {u : Uid} (hu : zaw u) {i : Nat} (hi : i ≤ 1073741824) :
  ∃ w', (Instr.mapUpdate 82 (.map (some b)) (valU u) (.int .i64 i)).run Tryz.prog w = .ok () w' ∧ MapU w' b (fun y => if y = u then some i else m y) (cnt + if (m u).isSome then 0 else 1) ∧ GrownBy w w' (some b) := by
 obtain ⟨D, n, hown, hn, hr, hc, hle⟩ := h
 have hown' : w.ownsMap Tryz.prog 23 (plainElem Tryz.prog 3) b cnt D := by
  obtain ⟨es, clock, h1, h2, h3, rfl⟩ := hown
  refine ⟨es, clock, h1, h2, ?_, rfl⟩
  rw [← hc]
  simp only [Maps.size, length_sorted, List.length_map, Array.length_toList]; omega
 obtain ⟨w', hrun, r1, r2⟩ := hown'.store (val := .int .i64 i) Tryz.lawU Tryz.underlying82 (by unfold maxLen; omega) (zb1 hu) (plainElem_int Tryz.underlying3 (WalkArith.wf_i64 (by omega)))
 have hkl := Tryz.lawU.key (zb1 hu)
 refine ⟨w', hrun, ⟨_, cnt + 1, r1, by omega, ⟨fun y hy => ?_, fun y j hy hj => ?_, fun kl hkl => ?_⟩, ?_, fun y j hj => ?_⟩, ⟨r2.grown, zb7 _ _ _ _ hrun⟩⟩
 ·by_cases he : y = u
  ·subst he
   rw [has_put_same hown.isMap hkl]; simp
  ·rw [has_put_other fun e => he (litU_inj hy hu e), if_neg he, hr.has y hy]
 ·by_cases he : y = u
  ·subst he
   rw [if_pos rfl] at hj
   obtain rfl := Option.some.inj hj
   rw [atKey_put_same hown.isMap hkl]
  ·rw [if_neg he] at hj
   rw [atKey_put_other fun e => he (litU_inj hy hu e), hr.at' y j hy hj]
 ·by_cases he : kl = litU u
  ·exact ⟨u, hu, he⟩
  ·rw [has_put_other he] at hkl
   exact hr.keys kl hkl
 ·rw [size_put (hown.tidy Tryz.lawU), hc, hr.has u hu]
  split <;> simp_all
 ·dsimp only at hj
  by_cases he : y = u
  ·rw [if_pos he] at hj
   obtain rfl := Option.some.inj hj
   exact hi
  ·rw [if_neg he] at hj
   exact hle y j hj
theorem MapP.put {w : World} {b : Nat} {m : zby → Bool} {cnt : Nat} (h : MapP w b m cnt) (hcnt : cnt ≤ 1048576) {p : zby} (hp : FitP p) :
  ∃ w', (Instr.mapUpdate 83 (.map (some b)) (valP p) (.bool true)).run Tryz.prog w = .ok () w' ∧ MapP w' b (fun y => decide (y = p) || m y) (cnt + if m p then 0 else 1) ∧ GrownBy w w' (some b) := by
 obtain ⟨D, n, hown, hn, hr, hc⟩ := h
 have hown' : w.ownsMap Tryz.prog 122 (plainElem Tryz.prog 4) b cnt D := by
  obtain ⟨es, clock, h1, h2, h3, rfl⟩ := hown
  refine ⟨es, clock, h1, h2, ?_, rfl⟩
  rw [← hc]
  simp only [Maps.size, length_sorted, List.length_map, Array.length_toList]; omega
 obtain ⟨w', hrun, r1, r2⟩ := hown'.store (val := .bool true) Tryz.lawP Tryz.underlying83 (by unfold maxLen; omega) (zbm hp) (plainElem_bool Tryz.underlying4 true)
 have hkl := Tryz.lawP.key (zbm hp)
 refine ⟨w', hrun, ⟨_, cnt + 1, r1, by omega, ⟨fun y hy => ?_, fun y hy hj => ?_, fun kl hkl => ?_⟩, ?_⟩, ⟨r2.grown, zb7 _ _ _ _ hrun⟩⟩
 ·by_cases he : y = p
  ·subst he
   rw [has_put_same hown.isMap hkl]; simp
  ·rw [has_put_other fun e => he (litP_inj hy hp e), hr.has y hy]; simp [he]
 ·by_cases he : y = p
  ·subst he
   rw [atKey_put_same hown.isMap hkl]
  ·simp [he] at hj
   rw [atKey_put_other fun e => he (litP_inj hy hp e), hr.at' y hy hj]
 ·by_cases he : kl = litP p
  ·exact ⟨p, hp, he⟩
  ·rw [has_put_other he] at hkl
   exact hr.keys kl hkl
 ·rw [size_put (hown.tidy Tryz.lawP), hc, hr.has p hp]
  split <;> simp_all
def RangeP (w : World) (b r : Nat) (m left : zby → Bool) (cnt : Nat) : Prop :=
 ∃ D n lf, w.ranges Tryz.prog 122 (plainElem Tryz.prog 4) b r n D lf cnt ∧ ReadsP D m ∧ (∀ p, FitP p → lf (litP p) = left p) ∧ ∀ kl, lf kl = true → ∃ p, FitP p ∧ kl = litP p
theorem RangeP.block {w w' : World} {b r : Nat} {m left : zby → Bool} {cnt : Nat} (h : RangeP w b r m left cnt) (hb : w'.heap[b]? = w.heap[b]?) (hr : w'.heap[r]? = w.heap[r]?) : RangeP w' b r m left cnt := by
 obtain ⟨D, n, lf, ⟨es, clock, since, seen, c0, h1, h2, h3, h4, h5, h6⟩, h7⟩ := h
 exact ⟨D, n, lf, ⟨es, clock, since, seen, c0, hb.trans h1, h2, h3, h4, hr.trans h5, h6⟩, h7⟩
theorem RangeP.lt {w : World} {b r : Nat} {m left : zby → Bool} {cnt : Nat} (h : RangeP w b r m left cnt) : b < w.heap.size ∧ r < w.heap.size := by
 obtain ⟨D, n, lf, h1, _⟩ := h; exact ⟨h1.owns.lt, h1.lt⟩
theorem RangeP.ext {w w' : World} {b r : Nat} {m left : zby → Bool} {cnt : Nat} (h : RangeP w b r m left cnt) (k : Ext w w') : RangeP w' b r m left cnt := h.block (k.block _ h.lt.1) (k.block _ h.lt.2)
theorem RangeP.isIter {w : World} {b r : Nat} {m left : zby → Bool} {cnt : Nat} (h : RangeP w b r m left cnt) : ∃ x y z, w.heap[r]? = some (.mapIter (some b) x y z) := by
 obtain ⟨D, n, lf, ⟨es, clock, since, seen, c0, h1, h2, h3, h4, h5, h6⟩, h7⟩ := h
 exact ⟨_, _, _, h5⟩
theorem RangeP.left_eq {w : World} {b r : Nat} {m left : zby → Bool} {cnt : Nat} (h : RangeP w b r m left cnt) : w.rangeLeft b r = cnt := by
 obtain ⟨D, n, lf, h1, _⟩ := h; exact h1.left_eq
section
variable {ops : Array Oper} {rest : List Oper} {o : Oper} {a : Act} {w : World} {Q : Exit → Act → World → Prop}
end
end Go.Proofs.YtebfoimbdljbmaaGreatDoor
