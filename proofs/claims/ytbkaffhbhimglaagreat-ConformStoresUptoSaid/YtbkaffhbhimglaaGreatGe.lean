/-
  The library's sort at a row of values that a call has made itself. The conditions: none beyond the contract's own.
-/
import Derived.Shelf.SlSortCmp.NoneTotal
import Derived.Test.YtbkaffhbhimglaaGreatGb
import Derived.Test.YtbkaffhbhimglaaGreatSortPQ
import Derived.Test.YtbkaffhbhimglaaGreatGc
import Derived.Deep.OwnRows
import Derived.Test.YtbkaffhbhimglaaGreatGd
namespace Go.Proofs.YtbkaffhbhimglaaGreat
open Go.RowKit Go.Sort
set_option maxHeartbeats 400000
theorem ord_le_trans {a b d : Val} (h1 : a.ord b ≤ 0) (h2 : b.ord d ≤ 0) : a.ord d ≤ 0 := by
 have hr := (Val.goodAt a).range b
 by_cases h0 : a.ord b = 0
 ·rw [← (Val.goodAt a).cong b d h0]; exact h2
 ·have := (Val.goodAt a).less b d (by omega) h2; omega
section
variable {S : Nat → Prop} {w : World}
structure Elem (S : Nat → Prop) (w : World) where
 enc : List Value
 v : Val
 lies : Val.At S w v enc
instance : Inhabited (Elem S w) := ⟨⟨zeroCells, .zero, Val.zero_at S w⟩⟩
def Elem.cf (x y : Elem S w) : Int := x.v.ord y.v
theorem Elem.len (x : Elem S w) : x.enc.length = 8 := x.lies.length
theorem Elem.one (x : Elem S w) : ∀ v ∈ x.enc, v.oneCell' = true := x.lies.one
theorem Elem.swo : SWO (ltOf (Elem.cf (S := S) (w := w))) where
 irrefl x := by simp [ltOf, Elem.cf, (Val.goodAt x.v).refl]
 trans x y z h1 h2 := by
  have h1 : x.v.ord y.v < 0 := of_decide_eq_true h1
  have h2 : y.v.ord z.v < 0 := of_decide_eq_true h2
  refine decide_eq_true (?_ : x.v.ord z.v < 0)
  have hr := (Val.goodAt x.v).range y.v
  have := (Val.goodAt x.v).less y.v z.v (by omega) (by omega)
  omega
 ntrans x y z h1 h2 := by
  have h1 : ¬ x.v.ord y.v < 0 := of_decide_eq_false h1
  have h2 : ¬ y.v.ord z.v < 0 := of_decide_eq_false h2
  refine decide_eq_false (?_ : ¬ x.v.ord z.v < 0)
  have t1 := (Val.goodAt x.v).turn y.v
  have t2 := (Val.goodAt y.v).turn z.v
  have t3 := (Val.goodAt x.v).turn z.v
  have := ord_le_trans (a := z.v) (b := y.v) (d := x.v) (by omega) (by omega)
  omega
theorem flat_pairs : ∀ {l : List Val} {xs : List Value}, Flat S w l xs → ∃ d : List (Elem S w), d.map Elem.v = l ∧ d.flatMap Elem.enc = xs
 | [], _, h => ⟨[], rfl, h.symm⟩
 | x :: r, _, ⟨c, ys, e, hv, hr⟩ => by
  obtain ⟨d, h1, h2⟩ := flat_pairs hr
  exact ⟨⟨c, x, hv⟩ :: d, by rw [List.map_cons, h1], by rw [List.flatMap_cons, h2, e]⟩
theorem pairs_flat {w' : World} (k : Alike S w w') : ∀ d : List (Elem S w), Flat S w' (d.map Elem.v) (d.flatMap Elem.enc)
 | [] => rfl
 | x :: r => ⟨x.enc, r.flatMap Elem.enc, by simp, x.lies.alike k, pairs_flat k r⟩
theorem flatMap_get : ∀ (d : List (Elem S w)) (t : Nat), t < d.length * 8 → (d.flatMap Elem.enc)[t]? = some ((d.toArray[t / 8]!).enc[t % 8]!)
 | [], t, h => by simp at h
 | x :: r, t, h => by
  have hx := x.len
  rw [List.flatMap_cons]
  by_cases h8 : t < 8
  ·rw [List.getElem?_append_left (by omega), Nat.div_eq_of_lt h8, Nat.mod_eq_of_lt h8]
   rw [List.getElem?_eq_getElem (by omega)]
   simp [hx, h8]
  ·rw [List.getElem?_append_right (by omega), hx, flatMap_get r (t - 8) (by simp at h; omega)]
   have e1 : t / 8 = (t - 8) / 8 + 1 := by omega
   have e2 : t % 8 = (t - 8) % 8 := by omega
   rw [e1, e2]
   simp
theorem zd6 (d : List (Elem S w)) : (d.flatMap Elem.enc).length = d.length * 8 := by
 induction d with
 | nil => rfl
 | cons x r ih => rw [List.flatMap_cons, List.length_append, ih, x.len]; simp; omega
theorem flatK_toList (d : Array (Elem S w)) : (flatK Elem.enc 8 d).toList = d.toList.flatMap Elem.enc := by
 apply List.ext_getElem?
 intro t
 by_cases h : t < d.size * 8
 ·rw [flatMap_get d.toList t (by simpa using h)]
  have := get_flatK (Elem.enc (S := S) (w := w)) 8 d t h
  rw [← this]
  have hs : t < (flatK (Elem.enc (S := S) (w := w)) 8 d).size := by simpa using h
  rw [Array.getElem?_toList, Array.getElem?_eq_getElem hs, getElem!_pos _ t hs]
 ·rw [List.getElem?_eq_none (by simp; omega), List.getElem?_eq_none (by rw [zd6]; simp; omega)]
end
theorem Tryz.enterOrder : ∀ args w, (callFunc 95 args).run Tryz.prog w = .ok (.enter 95 args) w := fun _ _ => by kernel_rfl
def SortedTo (base : Nat) (v : Value) (l : List Val) (w : World) (e : Ending) (w' : World) : Prop :=
 e = .returned (.tuple #[]) ∧ ∃ l' xs', l'.Perm l ∧ l'.Pairwise (fun a b => a.ord b ≤ 0) ∧ w'.ownsRow base 46 8 v l'.length xs' ∧ Flat (Made base w' v) w' l' xs' ∧ Below base w w' ∧ w.drawn ≤ w'.drawn
theorem zba {α : Type} [Inhabited α] (enc : α → List Value) (k : Nat) (w : World) (blk off n : Nat) (d : Array α) (os : Array Obj) (b : Nat) (hb : b < w.heap.size) :
  (sortWorldK enc k w blk off n d os).heap[b]? = if blk = b then (w.heap[b]?).map (onCells (putCells id off (flatK enc k d))) else w.heap[b]? := by
 unfold sortWorldK putRowK putRow mapBlock Sort.ahead grow
 rw [Array.getElem?_append_left (by simpa using hb), Array.getElem?_modify]
theorem sortV_ok (base : Nat) (w : World) (v : Value) (l : List Val) (xs : List Value) (hown : w.ownsRow base 46 8 v l.length xs) (hf : Flat (Made base w v) w l xs) (hl : l.length ≤ LIM) :
  Calls Tryz.prog 94 #[v, .func (.func 95) #[] #[]] w (SortedTo base v l w) := by
 obtain ⟨hx, hv⟩ := id hown
 rcases hv with ⟨rfl, hn⟩ | ⟨g, cap, cur, rfl, hg, hh, hnc, hcm, hcur, htake⟩
 ·have h := AnyF.slices_SortFunc_none Go.Proofs.Tryz.sortV none 0 (.func (.func 95) #[] #[]) w
  refine (show Calls Tryz.prog 94 _ w _ from h).mono ?_
  rintro e w' ⟨rfl, rfl⟩
  have : l = [] := List.eq_nil_of_length_eq_zero hn
  subst this
  exact ⟨rfl, [], xs, List.Perm.refl _, List.Pairwise.nil, hown, hf, Below.refl _ _, Nat.le_refl _⟩
 ·obtain ⟨S, hSd⟩ : ∃ S : Nat → Prop, S = Made base w (.slice (some ⟨g, 0, none⟩) l.length cap) := ⟨_, rfl⟩
  have hSm : ∀ b, S b → base ≤ b ∧ b < w.heap.size ∧ b ≠ g := fun b hb => by rw [hSd] at hb; exact ⟨hb.1, hb.2.1, fun e => hb.2.2 (by rw [e]; rfl)⟩
  have hSn : ∀ (w' : World) b, S b → w.heap.size ≤ w'.heap.size → Made base w' (.slice (some ⟨g, 0, none⟩) l.length cap) b := fun w' b hb hw => by rw [hSd] at hb; exact ⟨hb.1, Nat.lt_of_lt_of_le hb.2.1 hw, hb.2.2⟩
  rw [← hSd] at hf
  clear hSd
  obtain ⟨d, hd1, hd2⟩ := flat_pairs hf
  have hdl : d.length = l.length := by rw [← hd1, List.length_map]
  have hgl := zad hh
  have hH : HoldsK (Elem.enc (S := S) (w := w)) 8 w g 0 d.toArray := by
   intro j hj
   have hj' : j < d.length * 8 := by simpa using hj
   constructor
   ·rw [cell_of_row _ _ _ _ _ _ hh]
    have h1 := flatMap_get d j hj'
    rw [get_flatK _ _ _ _ (by simpa using hj'), hd2, ← htake, List.getElem?_take] at *
    split at h1
    ·rw [Nat.zero_add]; simpa using h1
    ·cases h1
   ·exact frozen_of_row _ _ _ _ _ hh
  have hcmp : CmpLays Tryz.prog 95 #[] (Elem.enc (S := S) (w := w)) 8 Elem.cf g 0 d.toArray.size w := by
   intro m os dk hs x y
   have hal : Alike S w (sortWorldK Elem.enc 8 w g 0 m dk os) := fun b hb => by
    rw [zba _ _ _ _ _ _ _ _ _ (hSm b hb).2.1, if_neg (Ne.symm (hSm b hb).2.2)]
   refine (order_ok _ x.v y.v _ (sortWorldK Elem.enc 8 w g 0 m dk os) x.enc y.enc (Nat.le_refl _) (fun b hb => Nat.lt_of_lt_of_le (hSm b hb).2.1 (size_sortWorldK_c _ _ _ _ _ _ _ _)) (x.lies.alike hal) (y.lies.alike hal)).mono ?_
   rintro e w' ⟨rfl, hx2⟩
   obtain ⟨p, hp⟩ := regrown_of_below hx2
   exact ⟨rfl, p.d, p.os, hp⟩
  have h := AnyQ.slices_SortFunc Go.Proofs.Tryz.sortV 8 zai zaf Elem.enc Elem.len Elem.one Elem.cf Elem.swo 95 #[] g 0 cap d.toArray w Tryz.enterOrder hcmp hH hgl (by simp [hdl]; rw [zak] at hl; omega)
  have h' : Calls Tryz.prog 94 #[.slice (some ⟨g, 0, none⟩) d.toArray.size cap, .func (.func 95) #[] #[]] w _ := h
  rw [show d.toArray.size = l.length by simp [hdl]] at h'
  refine h'.mono ?_
  rintro e w' ⟨rfl, d', n, os, ⟨hps, _, hperm⟩, hsort, rfl⟩
  have hds : d'.size = l.length := by rw [hps]; simp [hdl]
  have hperm' : d'.toList.Perm d := by
   have h1 : (d'.extract 0 l.length) = d' := by rw [← hds]; simp
   have h2 : (d.toArray.extract 0 l.length) = d.toArray := by rw [← hdl]; simp
   rw [h1, h2] at hperm
   simpa using hperm
  have hhold := holdsK_sortWorldK Elem.enc 8 w g 0 n d.toArray d' os hgl hH hps
  have hblk : (sortWorldK Elem.enc 8 w g 0 n d' os).heap[g]? = some (.cells (putCells id 0 (flatK Elem.enc 8 d') cur) 46 (0, 0)) := by
   rw [zba _ _ _ _ _ _ _ _ _ hgl, if_pos rfl, hh]; rfl
  have hsz : (putCells id 0 (flatK Elem.enc 8 d') cur).size = cur.size := by simp [putCells]
  have hother : ∀ b, b < w.heap.size → b ≠ g → (sortWorldK Elem.enc 8 w g 0 n d' os).heap[b]? = w.heap[b]? := fun b hb hne => by
   rw [zba _ _ _ _ _ _ _ _ _ hb, if_neg (Ne.symm hne)]
  have hal : Alike S w (sortWorldK Elem.enc 8 w g 0 n d' os) := fun b hb => hother b (hSm b hb).2.1 (hSm b hb).2.2
  refine ⟨rfl, d'.toList.map Elem.v, d'.toList.flatMap Elem.enc, ?_, ?_, ?_, ?_, ?_, ?_⟩
  ·rw [← hd1]; exact hperm'.map _
  ·rw [List.pairwise_map]
   refine List.pairwise_iff_getElem.2 fun i j hi hj hij => ?_
   have h1 := hsort i j (Nat.zero_le _) hij (by simpa [hds] using hj)
   have hi' : i < d'.size := by simpa using hi
   have hj' : j < d'.size := by simpa using hj
   rw [getElem!_pos d' i hi', getElem!_pos d' j hj'] at h1
   have h1 : ¬ d'[j].v.ord d'[i].v < 0 := of_decide_eq_false h1
   have h2 := (Val.goodAt (d'[i].v)).turn d'[j].v
   simp only [Array.getElem_toList]
   omega
  ·refine ⟨by rw [zd6]; simp, .inr ⟨g, cap, _, by simp [hds], hg, hblk, by simpa [hds] using hnc, hcm, by rw [hsz, hcur], ?_⟩⟩
   apply List.ext_getElem?
   intro t
   rw [List.getElem?_take]
   by_cases ht : t < d'.size * 8
   ·rw [if_pos (by simpa using ht)]
    have h1 := (hhold t (by simpa using ht)).1
    rw [cell_of_row _ _ _ _ _ _ hblk, Nat.zero_add] at h1
    rw [← flatK_toList, Array.getElem?_toList, h1]
    have hs : t < (flatK (Elem.enc (S := S) (w := w)) 8 d').size := by simpa using ht
    rw [Array.getElem?_toList, Array.getElem?_eq_getElem hs, getElem!_pos _ t hs]
    rfl
   ·rw [if_neg (by simpa using ht), List.getElem?_eq_none (by rw [zd6]; simp; omega)]
  ·exact (pairs_flat hal d'.toList).mono fun b hb => hSn _ b hb (size_sortWorldK_c _ _ _ _ _ _ _ _)
  ·exact ⟨rfl, rfl, rfl, size_sortWorldK_c _ _ _ _ _ _ _ _, fun b hb => hother b (by omega) (by omega)⟩
  ·simp [sortWorldK, putRowK, putRow, mapBlock, Sort.ahead, grow]
end Go.Proofs.YtbkaffhbhimglaaGreat

/-
  The library's sort at a row of things of one kind that a call has made itself. The conditions: none beyond the contract's own.
-/
namespace Go.Proofs.YtbkaffhbhimglaaGreat
open Go.RowKit Go.Sort
set_option maxHeartbeats 400000
section
variable {α : Type} {R : Rep α} {S : Nat → Prop} {w : World}
structure ElemG (R : Rep α) (S : Nat → Prop) (w : World) where
 enc : List Value
 v : α
 lies : R.At S w v enc
theorem ElemG.len (x : ElemG R S w) : x.enc.length = R.size := R.len x.lies
theorem ElemG.one (x : ElemG R S w) : ∀ v ∈ x.enc, v.oneCell' = true := R.one x.lies
theorem good_le_trans {c : α → α → Int} (hg : ∀ x, GoodAt c x) {a b d : α} (h1 : c a b ≤ 0) (h2 : c b d ≤ 0) : c a d ≤ 0 := by
 have hr := (hg a).range b
 by_cases h0 : c a b = 0
 ·rw [← (hg a).cong b d h0]; exact h2
 ·have := (hg a).less b d (by omega) h2; omega
theorem ElemG.swo {c : α → α → Int} (hg : ∀ x, GoodAt c x) : SWO (ltOf fun x y : ElemG R S w => c x.v y.v) where
 irrefl x := by simp [ltOf, (hg x.v).refl]
 trans x y z h1 h2 := by
  have h1 : c x.v y.v < 0 := of_decide_eq_true h1
  have h2 : c y.v z.v < 0 := of_decide_eq_true h2
  refine decide_eq_true (?_ : c x.v z.v < 0)
  have hr := (hg x.v).range y.v
  have := (hg x.v).less y.v z.v (by omega) (by omega)
  omega
 ntrans x y z h1 h2 := by
  have h1 : ¬ c x.v y.v < 0 := of_decide_eq_false h1
  have h2 : ¬ c y.v z.v < 0 := of_decide_eq_false h2
  refine decide_eq_false (?_ : ¬ c x.v z.v < 0)
  have t1 := (hg x.v).turn y.v
  have t2 := (hg y.v).turn z.v
  have t3 := (hg x.v).turn z.v
  have := good_le_trans hg (a := z.v) (b := y.v) (d := x.v) (by omega) (by omega)
  omega
theorem flat_pairsG : ∀ {l : List α} {xs : List Value}, R.Flat S w l xs → ∃ d : List (ElemG R S w), d.map ElemG.v = l ∧ d.flatMap ElemG.enc = xs
 | [], _, h => ⟨[], rfl, h.symm⟩
 | x :: r, _, ⟨c, ys, e, hv, hr⟩ => by
  obtain ⟨d, h1, h2⟩ := flat_pairsG hr
  exact ⟨⟨c, x, hv⟩ :: d, by rw [List.map_cons, h1], by rw [List.flatMap_cons, h2, e]⟩
theorem pairs_flatG {w' : World} (k : Alike S w w') : ∀ d : List (ElemG R S w), R.Flat S w' (d.map ElemG.v) (d.flatMap ElemG.enc)
 | [] => rfl
 | x :: r => ⟨x.enc, r.flatMap ElemG.enc, by simp, R.alike x.lies k, pairs_flatG k r⟩
theorem flatMap_getG [Inhabited (ElemG R S w)] : ∀ (d : List (ElemG R S w)) (t : Nat), t < d.length * R.size → (d.flatMap ElemG.enc)[t]? = some ((d.toArray[t / R.size]!).enc[t % R.size]!)
 | [], t, h => by simp at h
 | x :: r, t, h => by
  have hx := x.len
  have hp := R.pos
  rw [List.flatMap_cons]
  by_cases h8 : t < R.size
  ·rw [List.getElem?_append_left (by omega), Nat.div_eq_of_lt h8, Nat.mod_eq_of_lt h8]
   rw [List.getElem?_eq_getElem (by omega)]
   simp [hx, h8]
  ·rw [List.length_cons, Nat.succ_mul] at h
   rw [List.getElem?_append_right (by omega), hx, flatMap_getG r (t - R.size) (by omega)]
   have e1 : t / R.size = (t - R.size) / R.size + 1 := by rw [← Nat.add_div_right _ hp, Nat.sub_add_cancel (by omega)]
   have e2 : t % R.size = (t - R.size) % R.size := by rw [← Nat.add_mod_right (t - R.size), Nat.sub_add_cancel (by omega)]
   rw [e1, e2]
   simp
theorem zdm (d : List (ElemG R S w)) : (d.flatMap ElemG.enc).length = d.length * R.size := by
 induction d with
 | nil => simp
 | cons x r ih => rw [List.flatMap_cons, List.length_append, ih, x.len, List.length_cons, Nat.succ_mul]; omega
theorem flatK_toListG [Inhabited (ElemG R S w)] (d : Array (ElemG R S w)) : (flatK ElemG.enc R.size d).toList = d.toList.flatMap ElemG.enc := by
 apply List.ext_getElem?
 intro t
 by_cases h : t < d.size * R.size
 ·rw [flatMap_getG d.toList t (by simpa using h)]
  have := get_flatK (ElemG.enc (R := R) (S := S) (w := w)) R.size d t h
  rw [← this]
  have hs : t < (flatK (ElemG.enc (R := R) (S := S) (w := w)) R.size d).size := by simpa using h
  rw [Array.getElem?_toList, Array.getElem?_eq_getElem hs, getElem!_pos _ t hs]
 ·rw [List.getElem?_eq_none (by simp; omega), List.getElem?_eq_none (by rw [zdm]; simp; omega)]
end
def SortedG {α : Type} (R : Rep α) (T : TypeId) (c : α → α → Int) (S : Nat → Prop) (base : Nat) (v : Value) (l : List α) (w : World) (e : Ending) (w' : World) : Prop :=
 e = .returned (.tuple #[]) ∧ ∃ l' xs', l'.Perm l ∧ l'.Pairwise (fun a b => c a b ≤ 0) ∧ w'.ownsRow base T R.size v l'.length xs' ∧ R.Flat S w' l' xs' ∧ Below base w w' ∧ w.drawn ≤ w'.drawn ∧ GrownBy w w' v.ownBlock
theorem Rep.sort_ok {α : Type} (R : Rep α) {ρ : Go.Shelf.Ren} (L : Go.Proofs.SlLaysF0.n6 Tryz.prog ρ) (T : TypeId) (aE : ∀ w, (isAgg (ρ.t 24)).run Tryz.prog w = .ok true w) (zE : ∀ w, (Go.sizeOf (ρ.t 24)).run Tryz.prog w = .ok R.size w) (c : α → α → Int) (hg : ∀ x, GoodAt c x) (g : FuncId) (cb : Array Value)
  (eg : ∀ args w, (callFunc g args).run Tryz.prog w = .ok (.enter g args) w) (S : Nat → Prop)
  (base : Nat) (w : World) (v : Value) (l : List α) (xs : List Value) (hc : ∀ (w1 : World) (x y : α) (cx cy : List Value), GrownBy w w1 v.ownBlock → (∀ b, S b → b < w1.heap.size) → R.At S w1 x cx → R.At S w1 y cy → Calls Tryz.prog g (#[.agg cx.toArray, .agg cy.toArray] ++ cb) w1 fun e w' => e = .returned (.int .i64 (c x y)) ∧ Ext w1 w')
  (hS : ∀ b, S b → b < w.heap.size ∧ v.ownBlock ≠ some b) (hown : w.ownsRow base T R.size v l.length xs) (hf : R.Flat S w l xs) (hl : l.length ≤ LIM) :
  Calls Tryz.prog (ρ.f 6) #[v, .func (.func g) #[] cb] w (SortedG R T c S base v l w) := by
 obtain ⟨hx, hv⟩ := id hown
 rcases hv with ⟨rfl, hn⟩ | ⟨gb, cap, cur, rfl, hgb, hh, hnc, hcm, hcur, htake⟩
 ·have h := AnyF.slices_SortFunc_none L none 0 (.func (.func g) #[] cb) w
  refine h.mono ?_
  rintro e w' ⟨rfl, rfl⟩
  have : l = [] := List.eq_nil_of_length_eq_zero hn
  subst this
  exact ⟨rfl, [], xs, List.Perm.refl _, List.Pairwise.nil, hown, hf, Below.refl _ _, Nat.le_refl _, GrownBy.of_ext _ (Ext.refl _)⟩
 ·have hSm : ∀ b, S b → b < w.heap.size ∧ b ≠ gb := fun b hb => ⟨(hS b hb).1, fun e => (hS b hb).2 (by rw [e]; rfl)⟩
  by_cases hl0 : l.length = 0
  ·have : l = [] := List.eq_nil_of_length_eq_zero hl0
   subst this
   have h := AnyF.slices_SortFunc_none L (some ⟨gb, 0, none⟩) cap (.func (.func g) #[] cb) w
   refine h.mono ?_
   rintro e w' ⟨rfl, rfl⟩
   exact ⟨rfl, [], xs, List.Perm.refl _, List.Pairwise.nil, hown, hf, Below.refl _ _, Nat.le_refl _, GrownBy.of_ext _ (Ext.refl _)⟩
  obtain ⟨d, hd1, hd2⟩ := flat_pairsG hf
  have hdl : d.length = l.length := by rw [← hd1, List.length_map]
  haveI : Inhabited (ElemG R S w) := ⟨d.head (by intro e; rw [e] at hdl; simp at hdl; omega)⟩
  have hgl := zad hh
  have hp := R.pos
  have hH : HoldsK (ElemG.enc (R := R) (S := S) (w := w)) R.size w gb 0 d.toArray := by
   intro j hj
   have hj' : j < d.length * R.size := by simpa using hj
   constructor
   ·rw [cell_of_row _ _ _ _ _ _ hh]
    have h1 := flatMap_getG d j hj'
    rw [get_flatK _ _ _ _ (by simpa using hj'), hd2, ← htake, List.getElem?_take] at *
    split at h1
    ·rw [Nat.zero_add]; simpa using h1
    ·cases h1
   ·exact frozen_of_row _ _ _ _ _ hh
  have hother : ∀ (n : Nat) (d' : Array (ElemG R S w)) (os : Array Obj) b, b < w.heap.size → b ≠ gb → (sortWorldK ElemG.enc R.size w gb 0 n d' os).heap[b]? = w.heap[b]? := fun n d' os b hb hne => by
   rw [zba _ _ _ _ _ _ _ _ _ hb, if_neg (Ne.symm hne)]
  have hdr : ∀ (n : Nat) (d' : Array (ElemG R S w)) (os : Array Obj), w.drawn ≤ (sortWorldK ElemG.enc R.size w gb 0 n d' os).drawn := fun n d' os => by simp [sortWorldK, putRowK, putRow, mapBlock, Sort.ahead, grow]
  have hgrow : ∀ (n : Nat) (d' : Array (ElemG R S w)) (os : Array Obj), GrownBy w (sortWorldK ElemG.enc R.size w gb 0 n d' os) (some gb) := fun n d' os =>
   ⟨⟨rfl, rfl, rfl, size_sortWorldK_c _ _ _ _ _ _ _ _, fun b hb hne => hother n d' os b hb fun e => hne (by rw [e])⟩, hdr n d' os⟩
  have hcmp : CmpLays Tryz.prog g cb (ElemG.enc (R := R) (S := S) (w := w)) R.size (fun x y => c x.v y.v) gb 0 d.toArray.size w := by
   intro m os dk hs x y
   have hal : Alike S w (sortWorldK ElemG.enc R.size w gb 0 m dk os) := fun b hb => hother _ _ _ b (hSm b hb).1 (hSm b hb).2
   refine (hc (sortWorldK ElemG.enc R.size w gb 0 m dk os) x.v y.v x.enc y.enc (hgrow m dk os) (fun b hb => Nat.lt_of_lt_of_le (hSm b hb).1 (size_sortWorldK_c _ _ _ _ _ _ _ _)) (R.alike x.lies hal) (R.alike y.lies hal)).mono ?_
   rintro e w' ⟨rfl, hx2⟩
   obtain ⟨p, hp⟩ := regrown_of_below hx2
   exact ⟨rfl, p.d, p.os, hp⟩
  have h := AnyQ.slices_SortFunc L R.size aE zE ElemG.enc ElemG.len ElemG.one (fun x y => c x.v y.v) (ElemG.swo hg) g cb gb 0 cap d.toArray w eg hcmp hH hgl (by simp [hdl]; rw [zak] at hl; omega)
  rw [show d.toArray.size = l.length by simp [hdl]] at h
  refine h.mono ?_
  rintro e w' ⟨rfl, d', n, os, ⟨hps, _, hperm⟩, hsort, rfl⟩
  have hds : d'.size = l.length := by rw [hps]; simp [hdl]
  have hperm' : d'.toList.Perm d := by
   have h1 : (d'.extract 0 l.length) = d' := by rw [← hds]; simp
   have h2 : (d.toArray.extract 0 l.length) = d.toArray := by rw [← hdl]; simp
   rw [h1, h2] at hperm
   simpa using hperm
  have hhold := holdsK_sortWorldK ElemG.enc R.size w gb 0 n d.toArray d' os hgl hH hps
  have hblk : (sortWorldK ElemG.enc R.size w gb 0 n d' os).heap[gb]? = some (.cells (putCells id 0 (flatK ElemG.enc R.size d') cur) T (0, 0)) := by
   rw [zba _ _ _ _ _ _ _ _ _ hgl, if_pos rfl, hh]; rfl
  have hsz : (putCells id 0 (flatK ElemG.enc R.size d') cur).size = cur.size := by simp [putCells]
  have hal : Alike S w (sortWorldK ElemG.enc R.size w gb 0 n d' os) := fun b hb => hother _ _ _ b (hSm b hb).1 (hSm b hb).2
  refine ⟨rfl, d'.toList.map ElemG.v, d'.toList.flatMap ElemG.enc, ?_, ?_, ?_, ?_, ?_, ?_, hgrow n d' os⟩
  ·rw [← hd1]; exact hperm'.map _
  ·rw [List.pairwise_map]
   refine List.pairwise_iff_getElem.2 fun i j hi hj hij => ?_
   have h1 := hsort i j (Nat.zero_le _) hij (by simpa [hds] using hj)
   have hi' : i < d'.size := by simpa using hi
   have hj' : j < d'.size := by simpa using hj
   rw [getElem!_pos d' i hi', getElem!_pos d' j hj'] at h1
   have h1 : ¬ c d'[j].v d'[i].v < 0 := of_decide_eq_false h1
   have h2 := (hg (d'[i].v)).turn d'[j].v
   simp only [Array.getElem_toList]
   omega
  ·refine ⟨by rw [zdm]; simp, .inr ⟨gb, cap, _, by simp [hds], hgb, hblk, by simpa [hds] using hnc, hcm, by rw [hsz, hcur], ?_⟩⟩
   apply List.ext_getElem?
   intro t
   rw [List.getElem?_take]
   by_cases ht : t < d'.size * R.size
   ·rw [if_pos (by simpa using ht)]
    have h1 := (hhold t (by simpa using ht)).1
    rw [cell_of_row _ _ _ _ _ _ hblk, Nat.zero_add] at h1
    rw [← flatK_toListG, Array.getElem?_toList, h1]
    have hs : t < (flatK (ElemG.enc (R := R) (S := S) (w := w)) R.size d').size := by simpa using ht
    rw [Array.getElem?_toList, Array.getElem?_eq_getElem hs, getElem!_pos _ t hs]
    rfl
   ·rw [if_neg (by simpa using ht), List.getElem?_eq_none (by rw [zdm]; simp; omega)]
  ·exact pairs_flatG hal d'.toList
  ·exact ⟨rfl, rfl, rfl, size_sortWorldK_c _ _ _ _ _ _ _ _, fun b hb => hother _ _ _ b (by omega) (by omega)⟩
  ·exact hdr _ _ _
end Go.Proofs.YtbkaffhbhimglaaGreat

/-
  The state of the taking away in memory: a map, counts, and those that may be taken; what its closures do. The conditions: each contract's own.
-/
namespace Go.Proofs.YtbkaffhbhimglaaGreat
open Go.RowKit
open Lib renaming hid → q_
set_option maxRecDepth 100000
def OneBox (w : World) (b : Nat) (v : Value) (T : TypeId) : Prop := w.heap[b]? = some (.cells #[v] T (0, 0))
theorem OneBox.cell {w : World} {b : Nat} {v : Value} {T : TypeId} (h : OneBox w b v T) : w.cell? ⟨b, 0, none⟩ = some v := by rw [cell_of_row _ _ _ _ _ _ h]; rfl
theorem OneBox.free {w : World} {b : Nat} {v : Value} {T : TypeId} (h : OneBox w b v T) : w.frozen? ⟨b, 0, none⟩ = false := frozen_of_row _ _ _ _ _ h
theorem OneBox.new (w : World) (v : Value) (T : TypeId) : OneBox (w.alloc (.cells #[v] T)) w.heap.size v T := heap_alloc_new w _
theorem OneBox.block {w w' : World} {b : Nat} {v : Value} {T : TypeId} (h : OneBox w b v T) (k : w'.heap[b]? = w.heap[b]?) : OneBox w' b v T := k.trans h
theorem OneBox.set {w : World} {b : Nat} {u v : Value} {T : TypeId} (h : OneBox w b u T) : OneBox (w.setCell ⟨b, 0, none⟩ v) b v T := by
 have := zbm h 0 v
 exact this
def NatsAt (w : World) (g n : Nat) (f : Nat → Nat) : Prop := w.heap[g]? = some (.cells ((List.range n).map fun k => Value.int .i64 (f k)).toArray 3 (0, 0))
theorem NatsAt.cell {w : World} {g n : Nat} {f : Nat → Nat} (h : NatsAt w g n f) {k : Nat} (hk : k < n) : w.cell? ⟨g, k, none⟩ = some (.int .i64 (f k)) := by
 rw [cell_of_row _ _ _ _ _ _ h]; simp [hk]
theorem NatsAt.free {w : World} {g n : Nat} {f : Nat → Nat} (h : NatsAt w g n f) (k : Nat) : w.frozen? ⟨g, k, none⟩ = false := frozen_of_row _ _ _ _ _ h
theorem NatsAt.congr {w : World} {g n : Nat} {f f' : Nat → Nat} (h : NatsAt w g n f) (he : ∀ k, k < n → f k = f' k) : NatsAt w g n f' := by
 unfold NatsAt at *
 rw [h]
 have : (List.range n).map (fun k => Value.int .i64 (f k)) = (List.range n).map (fun k => Value.int .i64 (f' k)) := List.map_congr_left fun k hk => by rw [he k (List.mem_range.1 hk)]
 rw [this]
theorem NatsAt.set {w : World} {g n : Nat} {f : Nat → Nat} (h : NatsAt w g n f) {k : Nat} (hk : k < n) (x : Nat) : NatsAt (w.setCell ⟨g, k, none⟩ (.int .i64 x)) g n fun j => if j = k then x else f j := by
 have h1 := zbm h k (.int .i64 x)
 unfold NatsAt
 rw [h1]
 congr 2
 apply Array.ext'
 simp only [Array.toList_setIfInBounds]
 apply List.ext_getElem?
 intro j
 by_cases hj : j < n
 ·by_cases he : j = k
  ·subst he
   simp [hj]
  ·rw [List.getElem?_set_ne (Ne.symm he)]
   simp [hj, he]
 ·rw [List.getElem?_eq_none (by simp; omega), List.getElem?_eq_none (by simp; omega)]
theorem NatsAt.made (w : World) (n : Nat) : NatsAt (w.alloc (.cells (madeCells #[.int .i64 0] n) 3)) w.heap.size n fun _ => 0 := by
 unfold NatsAt
 rw [heap_alloc_new]
 congr 2
 apply Array.ext'
 rw [toList_madeCells_one]
 apply List.ext_getElem?
 intro j
 by_cases hj : j < n
 ·simp [hj]
 ·rw [List.getElem?_eq_none (by simp; omega), List.getElem?_eq_none (by simp; omega)]
structure KNum where
 bA : Nat
 B : Nat
 bB : Nat
 G : Nat
 bL : Nat
 n : Nat
structure KState (w0 : World) (q : KNum) (us : List Uid) (f : Nat → Nat) (L : List Nat) (w : World) : Prop where
 ext : Ext w0 w
 ord : w0.heap.size ≤ q.B ∧ q.B < q.bA ∧ q.bA < q.G ∧ q.G < q.bB ∧ q.bB < q.bL ∧ q.bL < w.heap.size
 at' : OneBox w q.bA (.map (some q.B)) 90
 map : MapU w q.B (idx us) q.n
 bel : OneBox w q.bB (.slice (some ⟨q.G, 0, none⟩) q.n q.n) 109
 nats : NatsAt w q.G q.n f
 left : ∃ v, OneBox w q.bL v 109 ∧ w.ownsRow (q.bL + 1) 3 1 v L.length (L.map fun k => Value.int .i64 (k : Nat))
section
variable {w0 : World} {q : KNum} {us : List Uid} {f : Nat → Nat} {L : List Nat} {w w' : World}
theorem KState.later (h : KState w0 q us f L w) (k : Ext w w') : KState w0 q us f L w' := by
 obtain ⟨o1, o2, o3, o4, o5, o6⟩ := h.ord
 obtain ⟨v, h1, h2⟩ := h.left
 have hb : ∀ b, b < w.heap.size → w'.heap[b]? = w.heap[b]? := fun b hb => k.block b hb
 exact ⟨h.ext.trans k, ⟨o1, o2, o3, o4, o5, Nat.lt_of_lt_of_le o6 k.size⟩, h.at'.block (hb _ (by omega)), h.map.ext k, h.bel.block (hb _ (by omega)), (hb _ (by omega)).trans h.nats, v, h1.block (hb _ (by omega)), zam h2 k⟩
theorem KState.other {r : Nat} (h : KState w0 q us f L w) (k : GrownBy w w' (some r)) (hr : w0.heap.size ≤ r) (hi : ∃ x y z u, w.heap[r]? = some (.mapIter x y z u)) : KState w0 q us f L w' := by
 obtain ⟨o1, o2, o3, o4, o5, o6⟩ := h.ord
 obtain ⟨v, h1, h2⟩ := h.left
 obtain ⟨x, y, z, u, hi⟩ := hi
 have hne : ∀ (b : Nat) (cs : Array Value) (T : TypeId), w.heap[b]? = some (Obj.cells cs T (0, 0)) → w'.heap[b]? = w.heap[b]? := fun b cs T hb => k.block b (zad hb) fun e => by
  injection e with e; subst e; rw [hi] at hb; cases hb
 obtain ⟨es, clock, hm⟩ := h.map.isMap
 refine ⟨zas h.ext k fun b e => by injection e with e; omega, ⟨o1, o2, o3, o4, o5, Nat.lt_of_lt_of_le o6 k.size⟩, h.at'.block (hne _ _ _ h.at'), h.map.block (k.block _ h.map.lt fun e => by injection e with e; rw [e, hi] at hm; cases hm),
  h.bel.block (hne _ _ _ h.bel), (hne _ _ _ h.nats).trans h.nats, v, h1.block (hne _ _ _ h1), ?_⟩
 refine zav h2 k fun b hb e => ?_
 injection e with e
 subst e
 obtain ⟨hx, hv⟩ := h2
 rcases hv with ⟨rfl, _⟩ | ⟨g, cap, cur, rfl, _, hh, _⟩
 ·cases hb
 ·simp only [Value.ownBlock] at hb
  obtain rfl := Option.some.inj hb
  rw [hi] at hh; cases hh
theorem KState.count (h : KState w0 q us f L w) {k : Nat} (hk : k < q.n) (x : Nat) : KState w0 q us (fun j => if j = k then x else f j) L (w.setCell ⟨q.G, k, none⟩ (.int .i64 x)) := by
 obtain ⟨o1, o2, o3, o4, o5, o6⟩ := h.ord
 obtain ⟨v, h1, h2⟩ := h.left
 have g := GrownBy.setCell w q.G k (.int .i64 x)
 have hb : ∀ b, b < w.heap.size → b ≠ q.G → (w.setCell ⟨q.G, k, none⟩ (.int .i64 x)).heap[b]? = w.heap[b]? := fun b hb hne => g.block b hb fun e => by injection e with e; exact hne e
 refine ⟨zas h.ext g fun b e => by injection e with e; omega, ⟨o1, o2, o3, o4, o5, Nat.lt_of_lt_of_le o6 g.size⟩, h.at'.block (hb _ (by omega) (by omega)), h.map.block (hb _ (by omega) (by omega)), h.bel.block (hb _ (by omega) (by omega)), h.nats.set hk x, v, h1.block (hb _ (by omega) (by omega)),
  zav h2 g fun b hb e => ?_⟩
 injection e with e
 have := (h2.lt b hb).1
 omega
theorem KState.lefts (h : KState w0 q us f L w) {v v' : Value} (hv : OneBox w q.bL v 109) {L' : List Nat} {w1 : World} (g : GrownBy w w1 v.ownBlock) (hown : w.ownsRow (q.bL + 1) 3 1 v L.length (L.map fun k => Value.int .i64 (k : Nat)))
  (h' : w1.ownsRow (q.bL + 1) 3 1 v' L'.length (L'.map fun k => Value.int .i64 (k : Nat))) : KState w0 q us f L' (w1.setCell ⟨q.bL, 0, none⟩ v') := by
 obtain ⟨o1, o2, o3, o4, o5, o6⟩ := h.ord
 have hlt : ∀ b, v.ownBlock = some b → q.bL < b := fun b hb => by have := (hown.lt b hb).1; omega
 have g2 := GrownBy.setCell w1 q.bL 0 v'
 have hb1 : ∀ b, b ≤ q.bL → w1.heap[b]? = w.heap[b]? := fun b hb => g.block b (by omega) fun e => by have := hlt b e.symm; omega
 have hb : ∀ b, b < q.bL → (w1.setCell ⟨q.bL, 0, none⟩ v').heap[b]? = w.heap[b]? := fun b hb => (g2.block b (by have := g.size; omega) fun e => by injection e with e; omega).trans (hb1 b (by omega))
 have hl1 : OneBox w1 q.bL v 109 := hv.block (hb1 _ (Nat.le_refl _))
 refine ⟨zas (zas h.ext g fun b e => by have := hlt b e; omega) g2 fun b e => by injection e with e; omega, ⟨o1, o2, o3, o4, o5, by have := g.size; have := g2.size; omega⟩,
  h.at'.block (hb _ (by omega)), h.map.block (hb _ (by omega)), h.bel.block (hb _ (by omega)), (hb _ (by omega)).trans h.nats, v', hl1.set, zav h' g2 fun b hb e => ?_⟩
 injection e with e
 have := (h'.lt b hb).1
 omega
end
theorem Tryz.info3 : (Tryz.prog.info? 3).map (fun i => (i.zero, i.size, i.bytes)) = some (some (.int .i64 0), 1, 8) := by kernel_rfl
theorem inc_ok (w0 : World) (q : KNum) (us : List Uid) (f : Nat → Nat) (L : List Nat) (w : World) (k : Nat) (h : KState w0 q us f L w) (hk : k < q.n) (hf : f k ≤ 4398046511104) :
  Calls Tryz.prog 84 #[.int .i64 k, .pointer (some ⟨q.bB, 0, none⟩)] w fun e w' => e = .returned (.tuple #[]) ∧ KState w0 q us (fun j => if j = k then f k + 1 else f j) L w' ∧ GrownBy w w' (some q.G) := by
 have c1 := h.bel.cell
 have c2 := h.nats.cell hk
 have c3 := h.nats.free k
 have H := q_ (h.count hk (f k + 1))
 clear h
 go_enter Tryz.func84, Tryz.ntmps84
 go_wp2_with fail
 go_end0
 exact ⟨rfl, H.out, GrownBy.setCell _ _ _ _⟩
theorem dec_ok (w0 : World) (q : KNum) (us : List Uid) (f : Nat → Nat) (L : List Nat) (w : World) (k : Nat) (h : KState w0 q us f L w) (hk : k < q.n) (hf : f k ≤ 4398046511104) (hpos : 1 ≤ f k) (hL : L.length ≤ 1048576) :
  Calls Tryz.prog 85 #[.int .i64 k, .pointer (some ⟨q.bB, 0, none⟩), .pointer (some ⟨q.bL, 0, none⟩)] w fun e w' => e = .returned (.tuple #[]) ∧ KState w0 q us (fun j => if j = k then f k - 1 else f j) (if f k = 1 then L ++ [k] else L) w' := by
 obtain ⟨i0, hi, hz0, hz1, hz2⟩ := info_parts Tryz.info3
 have c1 := h.bel.cell
 have c2 := h.nats.cell hk
 have c3 := h.nats.free k
 by_cases h1 : f k = 1
 ·have c2' : w.cell? ⟨q.G, k, none⟩ = some (.int .i64 1) := by rw [c2, h1]; rfl
  clear c2
  have H : Hid (KState w0 q us (fun j => if j = k then 0 else f j) L (w.setCell ⟨q.G, k, none⟩ (.int .i64 0))) := q_ (h.count hk 0)
  have d1 := H.out.bel.cell
  have d2 : (w.setCell ⟨q.G, k, none⟩ (.int .i64 0)).cell? ⟨q.G, k, none⟩ = some (.int .i64 0) := by
   have := H.out.nats.cell hk
   rwa [if_pos rfl] at this
  obtain ⟨v, hv, hown⟩ := H.out.left
  have d3 := hv.cell
  have d4 := hv.free
  have HV := q_ hv
  have HO := q_ hown
  have H1 := q_ h1
  have Hq := q_ H.out.ord
  clear h h1 hv hown hf hpos
  go_enter Tryz.func85, Tryz.ntmps85
  go_wp2_with (at_builtin; refine za1 rfl (.tmp 15) (.tmp 17) 109 rfl (q.bL + 1) 3 i0 (.int .i64 0) 1 8 Tryz.underlying109 hi hz0 hz1 hz2 rfl (by decide) v L.length (L.map fun k => Value.int .i64 (k : Nat)) rfl (zam HO.out ((Ext.refl _).alloc _)) w.heap.size 0 1 1 [.int .i64 k] rfl rfl ?q1 ?q2 ?q3 ?q4 ?q5 ?_)
  case q1 => exact zap _ _ (by simp)
  case q2 => simp [Value.oneCell']
  case q3 => rw [zab]; omega
  case q4 => omega
  case q5 => have := Hq.out; simp at this ⊢; omega
  intro v' w2 hown' hgrow hblk
  obtain ⟨A', cap', rfl⟩ := zax hown'
  have Hfin := q_ (H.out.later ((Ext.refl _).alloc (.cells #[.int .i64 k] 3)) |>.lefts (L' := L ++ [k]) (HV.out.block (heap_alloc_old _ _ (zad HV.out))) hgrow (zam HO.out ((Ext.refl _).alloc _)) (by simpa using hown'))
  have hb2 : OneBox w2 q.bL v 109 := HV.out.block ((hgrow.block _ (by have := zad HV.out; simp at this ⊢; omega) fun e => by have := (HO.out.lt _ e.symm).1; omega).trans (heap_alloc_old _ _ (zad HV.out)))
  have d5 := hb2.free
  have d6 := hb2.cell
  have HB2 := q_ hb2
  clear hown' hgrow hblk hb2
  go_wp2_with fail
  go_end0
  exact ⟨rfl, Hfin.out⟩
 ·have H := q_ (h.count hk (f k - 1))
  have e1 : ((f k : Nat) : Int) - 1 = ((f k - 1 : Nat) : Int) := by omega
  rw [← e1] at H
  have d1 := H.out.bel.cell
  have d2 := H.out.nats.cell hk
  rw [if_pos rfl, ← e1] at d2
  have e2 : (((f k : Nat) : Int) - 1 == 0) = false := by simp; omega
  have H1 := q_ h1
  clear h h1 e1 hL
  go_enter Tryz.func85, Tryz.ntmps85
  go_wp2_with fail
  go_end0
  exact ⟨rfl, H.out⟩
end Go.Proofs.YtbkaffhbhimglaaGreat

/-
  What the program's Round comes to: whether some are above themselves. The conditions: the entities lie in memory as they should, no name is there twice.
-/
namespace Go.Proofs.YtbkaffhbhimglaaGreat
open Go.RowKit
open Lib renaming hid → q_
set_option maxRecDepth 100000
set_option maxHeartbeats 800000
theorem filterMap_some {α β : Type} {g : α → Option β} {x : α} {y : β} {l : List α} (h : g x = some y) : (x :: l).filterMap g = y :: l.filterMap g := by simp [h]
theorem filterMap_none {α β : Type} {g : α → Option β} {x : α} {l : List α} (h : g x = none) : (x :: l).filterMap g = l.filterMap g := by simp [h]
theorem drop_of_get {α : Type} {l : List α} {k : Nat} {x : α} (h : l[k]? = some x) : l.drop k = x :: l.drop (k + 1) := by
 obtain ⟨h1, rfl⟩ := List.getElem?_eq_some_iff.1 h
 exact List.drop_eq_getElem_cons h1
theorem each_ok (us : List Uid) (S : Nat → Prop) (x : Ent) (cs : List Value) (g : FuncId) (cb : Array Value) (eg : ∀ args w, (callFunc g args).run Tryz.prog w = .ok (.enter g args) w) (I : List Nat → World → Prop) (bA B n : Nat) (w0 : World)
  (hI : I (x.ps.filterMap (idx us)) w0) (hst : ∀ rest w1, I rest w1 → OneBox w1 bA (.map (some B)) 90 ∧ MapU w1 B (idx us) n ∧ Alike S w0 w1) (hext : ∀ rest w1 w2, I rest w1 → Ext w1 w2 → I rest w2)
  (hdo : ∀ k rest w1, k < us.length → I (k :: rest) w1 → Calls Tryz.prog g (#[.int .i64 k] ++ cb) w1 fun e w' => e = .returned (.tuple #[]) ∧ I rest w') (hx : entR.At S w0 x cs) :
  Calls Tryz.prog 83 #[.agg cs.toArray, .func (.func g) #[] cb, .pointer (some ⟨bA, 0, none⟩)] w0 fun e w' => e = .returned (.tuple #[]) ∧ I [] w' := by
 obtain ⟨pv, acs, rfl, hfu, ⟨A, cap, rfl, ⟨hl0, hl1, hl2⟩, hlr⟩, hat⟩ := hx
 obtain ⟨q1, q2, q3, q4, q5, q6, A2, l2, c2, A3, l3, c3, rfl⟩ := hat.shape
 rw [zak] at hl0
 rw [zab] at hl2
 have HI := q_ (hext _ _ _ hI ((Ext.refl w0).alloc (.cells #[.string x.uid.1, .string x.uid.2, .slice A x.ps.length cap, .int .i64 q1, .bool q2, .int .i64 q3, .string q4, .string q5, .string q6, .slice A2 l2 c2, .slice A3 l3 c3] 49)))
 have HST := q_ hst
 have HE := q_ hext
 have HD := q_ hdo
 have HL := q_ hlr
 clear hI hst hext hdo hlr hat hfu
 go_enter Tryz.func83, Tryz.ntmps83
 go_wp2_with fail
 go_loopw [12] (fun i wr => ∃ k : Nat, k ≤ x.ps.length ∧ i = .int .i64 k ∧ Hid (I ((x.ps.drop k).filterMap (idx us)) wr)) (fun i _ => x.ps.length - (intOf i).toNat)
 case atStart => exact ⟨0, Nat.zero_le _, rfl, HI⟩
 case round =>
  obtain ⟨k, hk, rfl, HR⟩ := hrel
  clear HI
  by_cases hlt : k < x.ps.length
  ·obtain ⟨b, o, rfl, hSb, hrow⟩ := HL.out (by omega)
   obtain ⟨u, hu⟩ : ∃ u, x.ps[k]? = some u := ⟨_, List.getElem?_eq_getElem hlt⟩
   obtain ⟨s1, s2, s3⟩ := HST.out _ _ HR.out
   obtain ⟨cs, hca, rfl, hfit⟩ := hrow k u hu
   have Hca := q_ (hca.alike hSb s3)
   have Hu := q_ hu
   have Hf := q_ hfit
   have HB := q_ s1
   have HM := q_ s2
   have HW := q_ (((Ext.refl wr).alloc (.cells #[.string u.1, .string u.2] 43)))
   clear hu hca hfit hrow s1 s2 s3 hSb
   cases hj : idx us u with
   | some j =>
    have Hj := q_ hj
    have hjl := idx_lt hj
    have hpx := q_ (show (x.ps.drop k).filterMap (idx us) = j :: (x.ps.drop (k + 1)).filterMap (idx us) by rw [drop_of_get Hu.out, filterMap_some hj])
    have c0 := (HB.out.block (HW.out.block _ (zad HB.out))).cell
    clear hj
    have HN := q_ (show I (j :: (x.ps.drop (k + 1)).filterMap (idx us)) (wr.alloc (.cells #[.string u.1, .string u.2] 43)) from HE.out _ _ _ (hpx.out ▸ HR.out) HW.out)
    go_wp2_with (first | refine zac rfl 43 _ rfl b (o + k * 2) rfl zb8 zbk rfl Hca.out ?_ | (at_lookup; refine zbu rfl _ _ rfl B _ _ rfl (HM.out.ext HW.out) u Hf.out rfl true (by rw [Hj.out]; rfl) ?_; intro c hc hcl; obtain rfl := hc j Hj.out; clear hc) | (go_at_fn g; refine (HD.out _ _ _ hjl HN.out).mono ?_; rintro e w2 ⟨rfl, hi2⟩; have HI2 := q_ hi2; clear hi2))
    go_roundw
    case rel => exact ⟨k + 1, by omega, by go_num, HI2⟩
    case measure => simp [intOf]; omega
   | none =>
    have Hj := q_ hj
    have hpx := q_ (show (x.ps.drop k).filterMap (idx us) = (x.ps.drop (k + 1)).filterMap (idx us) by rw [drop_of_get Hu.out, filterMap_none hj])
    have c0 := (HB.out.block (HW.out.block _ (zad HB.out))).cell
    clear hj
    have HN := q_ (show I ((x.ps.drop (k + 1)).filterMap (idx us)) (wr.alloc (.cells #[.string u.1, .string u.2] 43)) from HE.out _ _ _ (hpx.out ▸ HR.out) HW.out)
    go_wp2_with (first | refine zac rfl 43 _ rfl b (o + k * 2) rfl zb8 zbk rfl Hca.out ?_ | (at_lookup; refine zbu rfl _ _ rfl B _ _ rfl (HM.out.ext HW.out) u Hf.out rfl false (by rw [Hj.out]; rfl) ?_; intro c hc hcl; clear hc))
    go_roundw
    case rel => exact ⟨k + 1, by omega, by go_num, HN⟩
    case measure => simp [intOf]; omega
  ·have hke : k = x.ps.length := by omega
   subst hke
   have HN := q_ (show I [] wr by have := HR.out; rwa [List.drop_length] at this)
   go_wp2_with fail
   go_end0
   exact ⟨rfl, HN.out⟩
end Go.Proofs.YtbkaffhbhimglaaGreat

/-
  What the program's Round comes to: whether some are above themselves. The conditions: the entities lie in memory as they should, no name is there twice.
-/
namespace Go.Proofs.YtbkaffhbhimglaaGreat
open Go.RowKit
open Lib renaming hid → q_
set_option maxRecDepth 100000
set_option maxHeartbeats 1600000
def skipL (us : List Uid) (left : Uid → Bool) (i : Nat) : Bool := match us[i]? with
 | some u => left u
 | none => true
theorem skipL_of {us : List Uid} {left : Uid → Bool} {i : Nat} {u : Uid} (h : us[i]? = some u) : skipL us left i = left u := by simp [skipL, h]
theorem skipL_one {us : List Uid} (hn : us.Nodup) {left : Uid → Bool} {i : Nat} {u : Uid} (h : us[i]? = some u) (hl : left u = true) :
  skipL us left i = true ∧ skipL us (fun y => left y && !decide (y = u)) i = false ∧ ∀ j, j ≠ i → skipL us left j = skipL us (fun y => left y && !decide (y = u)) j := by
 refine ⟨by rw [skipL_of h]; exact hl, by rw [skipL_of h]; simp, fun j hj => ?_⟩
 unfold skipL
 cases hu : us[j]? with
 | none => rfl
 | some v =>
  have : v ≠ u := fun e => by
   subst e
   have h1 := za4 hn hu
   have h2 := za4 hn h
   rw [h1] at h2
   exact hj (Option.some.inj h2)
  simp [this]
theorem RangeU.apart {w w' : World} {b r : Nat} {m : Uid → Option Nat} {left : Uid → Bool} {cnt G : Nat} (h : RangeU w b r m left cnt) (k : GrownBy w w' (some G)) {cs : Array Value} {T : TypeId} (hG : w.heap[G]? = some (.cells cs T (0, 0))) : RangeU w' b r m left cnt := by
 obtain ⟨x, y, z, hi⟩ := h.isIter
 have hb : ∃ es clock, w.heap[b]? = some (.map es clock) := by
  obtain ⟨D, n, lf, ⟨es, clock, _, _, _, h1, _⟩, _⟩ := h
  exact ⟨es, clock, h1⟩
 obtain ⟨es, clock, hb⟩ := hb
 exact h.block (k.block _ h.lt.1 fun e => by injection e with e; rw [e, hG] at hb; cases hb) (k.block _ h.lt.2 fun e => by injection e with e; rw [e, hG] at hi; cases hi)
theorem RangeU.own {w w' : World} {b r : Nat} {m : Uid → Option Nat} {left : Uid → Bool} {cnt base n size : Nat} {e : TypeId} {v : Value} {xs : List Value} (h : RangeU w b r m left cnt) (k : GrownBy w w' v.ownBlock) (hown : w.ownsRow base e size v n xs) : RangeU w' b r m left cnt := by
 obtain ⟨hx, hv⟩ := hown
 rcases hv with ⟨rfl, _⟩ | ⟨g, cap, cur, rfl, _, hh, _⟩
 ·exact h.block (k.block _ h.lt.1 fun e => by cases e) (k.block _ h.lt.2 fun e => by cases e)
 ·exact h.apart k hh
theorem ownsRow_cut {w : World} {base : Nat} {e : TypeId} {g n m cap size : Nat} {xs ys : List Value} (h : w.ownsRow base e size (.slice (some ⟨g, 0, none⟩) n cap) n (xs ++ ys)) (hm : m ≤ n) (hx : xs.length = m * size) : w.ownsRow base e size (.slice (some ⟨g, 0, none⟩) m cap) m xs := by
 obtain ⟨h1, hv⟩ := h
 rcases hv with ⟨hv, _⟩ | ⟨g', cap', cur, hv, hg, hh, hnc, hcm, hcur, htake⟩
 ·cases hv
 ·injection hv with e1 _ e3
  injection e1 with e1
  injection e1 with e1 _
  subst e1 e3
  refine ⟨hx, .inr ⟨_, _, cur, rfl, hg, hh, by omega, hcm, hcur, ?_⟩⟩
  have : (cur.toList.take (n * size)).take (m * size) = (xs ++ ys).take (m * size) := by rw [htake]
  rw [List.take_take, Nat.min_eq_left (Nat.mul_le_mul_right _ hm), ← hx, List.take_left] at this
  rw [← hx]; exact this
theorem Tryz.enter73 : ∀ args w, (callFunc 84 args).run Tryz.prog w = .ok (.enter 84 args) w := fun _ _ => by kernel_rfl
theorem Tryz.enter74 : ∀ args w, (callFunc 85 args).run Tryz.prog w = .ok (.enter 85 args) w := fun _ _ => by kernel_rfl
def Pass1 (w0 : World) (q : KNum) (l : List Ent) (r : Nat) (left : Uid → Bool) (cnt : Nat) (rest : List Nat) (w : World) : Prop :=
 ∃ f, KState w0 q (l.map Ent.uid) f [] w ∧ RangeU w q.B r (idx (l.map Ent.uid)) left cnt ∧ ∀ k, k < l.length → f k + rest.count k = zce (parN l) (skipL (l.map Ent.uid) left) k l.length
theorem parN_len {l : List Ent} {M : Nat} (hps : ∀ e ∈ l, e.ps.length ≤ M) (i : Nat) : (parN l i).length ≤ M := by
 unfold parN
 split
 ·rename_i e he
  exact Nat.le_trans (List.length_filterMap_le _ _) (hps e (List.mem_of_getElem? he))
 ·simp
theorem Pass1.later {w0 : World} {q : KNum} {l : List Ent} {r : Nat} {left : Uid → Bool} {cnt : Nat} {rest : List Nat} {w w' : World} (h : Pass1 w0 q l r left cnt rest w) (k : Ext w w') : Pass1 w0 q l r left cnt rest w' := by
 obtain ⟨f, h1, h2, h3⟩ := h
 exact ⟨f, h1.later k, h2.ext k, h3⟩
theorem Pass1.tell {w0 : World} {q : KNum} {l : List Ent} {r : Nat} {left : Uid → Bool} {cnt k : Nat} {rest : List Nat} {w : World} (h : Pass1 w0 q l r left cnt (k :: rest) w) (hk : k < l.length) (hq : q.n = l.length) (hlen : l.length ≤ 1048576) (hps : ∀ e ∈ l, e.ps.length ≤ 1048576) :
  Calls Tryz.prog 84 (#[.int .i64 k] ++ #[.pointer (some ⟨q.bB, 0, none⟩)]) w fun e w' => e = .returned (.tuple #[]) ∧ Pass1 w0 q l r left cnt rest w' := by
 obtain ⟨f, h1, h2, h3⟩ := h
 have hb := cntOut_le (par := parN l) (s := skipL (l.map Ent.uid) left) (k := k) (n := l.length) (M := 1048576) fun i _ => parN_len hps i
 have hm : l.length * 1048576 ≤ 1048576 * 1048576 := Nat.mul_le_mul_right _ hlen
 have h4 := h3 k hk
 refine (inc_ok w0 q _ f [] w k h1 (by rw [hq]; exact hk) (by omega)).mono ?_
 rintro e w' ⟨he, hK, hg⟩
 refine ⟨he, _, hK, h2.apart hg h1.nats, fun j hj => ?_⟩
 have h5 := h3 j hj
 by_cases hjk : j = k
 ·subst hjk
  simp at h5 ⊢; omega
 ·rw [List.count_cons_of_ne (Ne.symm hjk)] at h5
  rw [if_neg hjk]; exact h5
def Pass3 (w0 : World) (q : KNum) (l : List Ent) (R : List Nat) (rest : List Nat) (w : World) : Prop :=
 rest.length ≤ 1048576 ∧ ∃ f L, KState w0 q (l.map Ent.uid) f L w ∧ Mid3 (parN l) l.length R L rest f
def Pass2 (w0 : World) (q : KNum) (l : List Ent) (r : Nat) (f : Nat → Nat) (left : Uid → Bool) (cnt : Nat) (w : World) : Prop :=
 ∃ L : List Nat, KState w0 q (l.map Ent.uid) f L w ∧ RangeU w q.B r (idx (l.map Ent.uid)) left cnt ∧ L.Nodup ∧ ∀ k, k ∈ L ↔ k < l.length ∧ skipL (l.map Ent.uid) left k = false ∧ f k = 0
theorem Pass3.later {w0 : World} {q : KNum} {l : List Ent} {R rest : List Nat} {w w' : World} (h : Pass3 w0 q l R rest w) (k : Ext w w') : Pass3 w0 q l R rest w' := by
 obtain ⟨h0, f, L, h1, h2⟩ := h
 exact ⟨h0, f, L, h1.later k, h2⟩
theorem Pass3.tell {w0 : World} {q : KNum} {l : List Ent} {R : List Nat} {k : Nat} {rest : List Nat} {w : World} (h : Pass3 w0 q l R (k :: rest) w) (hk : k < l.length) (hq : q.n = l.length) (hlen : l.length ≤ 1048576) (hps : ∀ e ∈ l, e.ps.length ≤ 1048576) :
  Calls Tryz.prog 85 (#[.int .i64 k] ++ #[.pointer (some ⟨q.bB, 0, none⟩), .pointer (some ⟨q.bL, 0, none⟩)]) w fun e w' => e = .returned (.tuple #[]) ∧ Pass3 w0 q l R rest w' := by
 obtain ⟨h0, f, L, h1, h2⟩ := h
 have hb := cntOut_le (par := parN l) (s := fun i => decide (i ∈ R)) (k := k) (n := l.length) (M := 1048576) fun i _ => parN_len hps i
 have hm : l.length * 1048576 ≤ 1048576 * 1048576 := Nat.mul_le_mul_right _ hlen
 have h4 := h2.sum k hk
 have hc : (k :: rest).count k ≤ (k :: rest).length := List.count_le_length
 have hpos := h2.told hk
 have hL : L.length ≤ l.length := by
  have := (zc0 (R := R ++ L) h2.nodup h2.lt).1
  simp at this; omega
 refine (dec_ok w0 q _ f L w k h1 (by rw [hq]; exact hk) (by omega) hpos.1 (by omega)).mono ?_
 rintro e w' ⟨he, hK⟩
 refine ⟨he, by simp at h0; omega, ?_⟩
 by_cases h1 : f k = 1
 ·rw [if_pos h1] at hK
  refine ⟨_, _, hK, ?_⟩
  have := h2.last hk h1
  rwa [show (fun j => if j = k then f k - 1 else f j) = fun j => if j = k then 0 else f j from funext fun j => by rw [h1]]
 ·rw [if_neg h1] at hK
  exact ⟨_, _, hK, h2.more hk h1⟩
theorem round_ok (S : Nat → Prop) (l : List Ent) (v : Value) (w : World) (hS : ∀ b, S b → b < w.heap.size) (hl : entR.RowsAt S w l v) (hlen : l.length ≤ 1048576) (hps : ∀ e ∈ l, e.ps.length ≤ 1048576) (hn : (l.map Ent.uid).Nodup) :
  Calls Tryz.prog 54 #[v] w fun e w' => ∃ r : Bool, e = .returned (.bool r) ∧ (r = true ↔ Rounded l) ∧ Ext w w' := by
 have hl' := hl
 obtain ⟨A, cap, rfl, ⟨hl0, hl1, hl2⟩, hlr⟩ := hl
 rw [zak] at hl0
 rw [zab] at hl2
 have HS := q_ hS
 have HL := q_ hlr
 have HL' := q_ hl'
 have HP := q_ hps
 have HN := q_ hn
 have hml : (l.map Ent.uid).length = l.length := List.length_map _
 have Hml := q_ hml
 have Hdis := q_ (show dis (l.map Ent.uid) l.length = l.length by have := dis_nodup hn; rwa [hml] at this)
 have HFit : Hid (∀ (i : Nat) (e : Ent), l[i]? = some e → FitU e.uid) := q_ fun i e he => by
  obtain ⟨b, o, _, _, hrow⟩ := hlr (by have := (List.getElem?_eq_some_iff.1 he).1; omega)
  obtain ⟨cs, _, _, _, _, h, _⟩ := hrow i e he
  exact h
 clear hS hlr hl' hps hn hml
 obtain ⟨i0, hi, hz0, hz1, hz2⟩ := info_parts Tryz.info3
 go_enter Tryz.func54, Tryz.ntmps54
 go_wp2_with (first | (go_at_call 48; refine (places_ok S l _ _ HS.out HL'.out hlen).mono ?_; rintro e w1 ⟨B, rfl, hm, hb, hx⟩; have HM := q_ hm; have HX1 := q_ hx; have HB := q_ hb; clear hm hx hb) | (at_make; refine wpList_make_row _ rfl _ _ 109 rfl 3 i0 (.int .i64 0) Tryz.underlying109 hi hz0 hz1 rfl .i64 .i64 l.length rfl rfl (by rw [hz2]; omega) (by omega) ?_) | (at_range; refine wpList_range_uid rfl _ rfl B _ _ rfl (HM.out.ext (((((Ext.refl w1).alloc _).alloc _).alloc _).alloc _)) (w1.heap.size + 1 + 1 + 1 + 1) (by simp) ?_; intro w5 hr hx5 hs5))
 go_frame
 obtain ⟨q, hq⟩ : ∃ q : KNum, q = ⟨w1.heap.size, B, w1.heap.size + 1 + 1, w1.heap.size + 1, w1.heap.size + 1 + 1 + 1, l.length⟩ := ⟨_, rfl⟩
 have hK0 : KState w q (l.map Ent.uid) (fun _ => 0) [] ((((w1.alloc (.cells #[.map (some B)] 90)).alloc (.cells (madeCells #[.int .i64 0] l.length) 3)).alloc (.cells #[.slice (some ⟨w1.heap.size + 1, 0, none⟩) l.length l.length] 109)).alloc (.cells #[.slice none 0 0] 109)) := by
  have hlt := HM.out.lt
  have hB := HB.out
  subst hq
  have e1 : (w1.alloc (.cells #[.map (some B)] 90)).heap.size = w1.heap.size + 1 := by simp
  have e2 : ((w1.alloc (.cells #[.map (some B)] 90)).alloc (.cells (madeCells #[.int .i64 0] l.length) 3)).heap.size = w1.heap.size + 1 + 1 := by simp
  have e3 : (((w1.alloc (.cells #[.map (some B)] 90)).alloc (.cells (madeCells #[.int .i64 0] l.length) 3)).alloc (.cells #[.slice (some ⟨w1.heap.size + 1, 0, none⟩) l.length l.length] 109)).heap.size = w1.heap.size + 1 + 1 + 1 := by simp
  have m0 := OneBox.new w1 (.map (some B)) 90
  have m1 := NatsAt.made (w1.alloc (.cells #[.map (some B)] 90)) l.length
  have m2 := OneBox.new ((w1.alloc (.cells #[.map (some B)] 90)).alloc (.cells (madeCells #[.int .i64 0] l.length) 3)) (.slice (some ⟨w1.heap.size + 1, 0, none⟩) l.length l.length) 109
  have m3 := OneBox.new (((w1.alloc (.cells #[.map (some B)] 90)).alloc (.cells (madeCells #[.int .i64 0] l.length) 3)).alloc (.cells #[.slice (some ⟨w1.heap.size + 1, 0, none⟩) l.length l.length] 109)) (.slice none 0 0) 109
  rw [e1] at m1
  rw [e2] at m2
  rw [e3] at m3
  refine ⟨(((HX1.out.alloc _).alloc _).alloc _).alloc _, ⟨hB, hlt, by simp, by simp, by simp, by simp⟩, ?_, ?_, ?_, ?_, ?_⟩
  ·exact ((m0.block (heap_alloc_old _ _ (by simp))).block (heap_alloc_old _ _ (by simp; omega))).block (heap_alloc_old _ _ (by simp; omega))
  ·rw [← Hdis.out]
   exact HM.out.ext (((((Ext.refl w1).alloc _).alloc _).alloc _).alloc _)
  ·exact m2.block (heap_alloc_old _ _ (by simp))
  ·exact (heap_alloc_old _ _ (by simp)).trans ((heap_alloc_old _ _ (by simp)).trans m1)
  ·exact ⟨_, m3, World.ownsRow_nil _ _ _ _⟩
 have P0 : Pass1 w q l (w1.heap.size + 1 + 1 + 1 + 1) (fun u => (idx (l.map Ent.uid) u).isSome) (dis (l.map Ent.uid) l.length) [] w5 := by
  refine ⟨_, hK0.later hx5, ?_, fun k hk => ?_⟩
  ·rw [hq]; exact hr
  ·rw [cntOut_all fun i hi => ?_]
   ·rfl
   ·obtain ⟨u, hu⟩ : ∃ u, (l.map Ent.uid)[i]? = some u := ⟨_, List.getElem?_eq_getElem (by rw [Hml.out]; exact hi)⟩
    rw [skipL_of hu, za4 HN.out hu]; rfl
 have HP0 := q_ P0
 have Hq := q_ hq
 clear hK0 P0 hr hx5 hs5 hq HM HX1 HB
 go_loopw [8] (fun _ wr => Hid (∃ left cnt, Pass1 w q l (w1.heap.size + 1 + 1 + 1 + 1) left cnt [] wr)) (fun _ wr => wr.rangeLeft B (w1.heap.size + 1 + 1 + 1 + 1))
 case atStart => exact q_ ⟨_, _, HP0.out⟩
 case round =>
  clear HP0
  obtain ⟨left, cnt, f, hk, hrg, hsum⟩ := hrel.out
  have HK := q_ hk
  have HR := q_ hrg
  have HU := q_ hsum
  clear hrel hk hrg hsum
  have hqB : q.B = B := by rw [Hq.out]
  rw [hqB] at HR
  go_wp2_with (at_next; refine wpList_next_uid rfl _ rfl B (w1.heap.size + 1 + 1 + 1 + 1) _ _ _ rfl HR.out ?_ ?_)
  ·intro hc0 hl0
   have HC : Hid (∀ k, k < l.length → f k = zce (parN l) (fun _ => false) k l.length) := by
    refine q_ fun k hk => ?_
    have h1 := HU.out k hk
    rw [List.count_nil, Nat.add_zero] at h1
    rw [h1]
    refine zdw fun i hi => ?_
    obtain ⟨e, he⟩ : ∃ e, l[i]? = some e := ⟨_, List.getElem?_eq_getElem hi⟩
    rw [skipL_of (u := e.uid) (by simp [he])]
    exact hl0 e.uid.1 e.uid.2 (HFit.out i e he)
   have c0 := HK.out.at'.cell
   rw [show q.bA = w1.heap.size by rw [Hq.out]] at c0
   have HM2 := q_ (by have := HK.out.map; rwa [hqB] at this)
   clear hl0 HU HR hc0
   obtain ⟨wa, rfl⟩ : ∃ wa : World, wa = wr := ⟨_, rfl⟩
   go_wp2_with (at_range; refine wpList_range_uid rfl _ rfl B _ _ rfl HM2.out wa.heap.size rfl ?_; intro w6 hr6 hx6 hs6)
   go_frame
   have P2 : Pass2 w q l wa.heap.size f (fun u => (idx (l.map Ent.uid) u).isSome) q.n w6 := by
    refine ⟨[], HK.out.later hx6, by rw [hqB]; exact hr6, List.nodup_nil, fun k => ?_⟩
    constructor
    ·intro h; simp at h
    ·rintro ⟨h1, h2, _⟩
     obtain ⟨e, he⟩ : ∃ e, l[k]? = some e := ⟨_, List.getElem?_eq_getElem h1⟩
     rw [skipL_of (u := e.uid) (by simp [he]), za4 HN.out (i := k) (by simp [he])] at h2
     cases h2
   have HP2 := q_ P2
   have HWA := q_ (show w.heap.size ≤ wa.heap.size from HK.out.ext.size)
   clear P2 hr6 hx6 hs6 c0 HM2 HK
   go_loopw [10] (fun _ wr => Hid (∃ left cnt, Pass2 w q l wa.heap.size f left cnt wr)) (fun _ wr => wr.rangeLeft B wa.heap.size)
   case atStart => exact q_ ⟨_, _, HP2.out⟩
   case round =>
    clear HP2
    obtain ⟨left, cnt, L, hk, hrg, hnd, hmem⟩ := hrel.out
    have HK := q_ hk
    have HR := q_ hrg
    have HD := q_ hnd
    have HU := q_ hmem
    clear hrel hk hrg hnd hmem
    rw [hqB] at HR
    go_wp2_with (at_next; refine wpList_next_uid rfl _ rfl B wa.heap.size _ _ _ rfl HR.out ?_ ?_)
    ·intro hc0 hl0
     have hskip : ∀ k, k < l.length → skipL (l.map Ent.uid) left k = false := fun k hk => by
      obtain ⟨e, he⟩ : ∃ e, l[k]? = some e := ⟨_, List.getElem?_eq_getElem hk⟩
      rw [skipL_of (u := e.uid) (by simp [he])]
      exact hl0 e.uid.1 e.uid.2 (HFit.out k e he)
     have P3 : Pass3 w q l [] [] wr := by
      refine ⟨by simp, f, L, HK.out, by simpa using HD.out, fun k hk => ((HU.out k).1 (by simpa using hk)).1, trivial, fun k hk => ?_, fun k hk => ?_⟩
      ·rw [List.nil_append, HU.out k]
       exact ⟨fun h => ⟨hk, hskip k hk, h⟩, fun h => h.2.2⟩
      ·rw [HC.out k hk, List.count_nil, Nat.add_zero]
       exact zdw fun i _ => by simp
     have HP3 := q_ P3
     clear P3 hskip hl0 hc0 HR HD HU HK
     obtain ⟨wb, rfl⟩ : ∃ wb : World, wb = wr := ⟨_, rfl⟩
     go_wp2_with fail
     go_loopw [11] (fun g wr => ∃ R : List Nat, g = .int .i64 R.length ∧ Hid (Pass3 w q l R [] wr)) (fun g _ => l.length - (intOf g).toNat)
     case atStart => exact ⟨[], rfl, HP3⟩
     case round =>
      clear HP3
      obtain ⟨R, rfl, HP3⟩ := hrel
      obtain ⟨_, f', L', hk, hm⟩ := HP3.out
      have HK := q_ hk
      have HM := q_ hm
      have hRL := (zc0 (R := R ++ L') hm.nodup hm.lt).1
      rw [List.length_append] at hRL
      obtain ⟨v, hv, hown⟩ := hk.left
      have hqL : q.bL = w1.heap.size + 1 + 1 + 1 := by rw [Hq.out]
      have HL3 := q_ hqL
      have HV := q_ hv
      rw [hqL] at hv
      have d3 := hv.cell
      have d4 := hv.free
      have c0 := hk.at'.cell
      rw [show q.bA = w1.heap.size by rw [Hq.out]] at c0
      have HM2 := q_ (by have := hk.map; rwa [hqB] at this)
      clear hk hm hv hqL HP3
      rcases (show L' = [] ∨ ∃ L2 i, L' = L2 ++ [i] from (List.eq_nil_or_concat L').imp id fun ⟨a, b, h⟩ => ⟨a, b, by rw [h, List.concat_eq_append]⟩) with rfl | ⟨L2, i, rfl⟩
      ·obtain ⟨A', cap', rfl⟩ := zax hown
       have HO := q_ hown
       clear hown
       go_wp2_with (refine zd9 rfl _ rfl B _ _ rfl HM2.out ?_)
       go_ret
       refine ⟨_, rfl, ?_, HK.out.ext⟩
       rw [show q.n = l.length by rw [Hq.out], rounded_of HN.out HM.out]
       simp
      ·have hin : i < l.length := HM.out.lt i (by simp)
       obtain ⟨x, hx⟩ : ∃ x, l[i]? = some x := ⟨_, List.getElem?_eq_getElem hin⟩
       have HO := q_ hown
       have hlen2 : (L2 ++ [i]).length = L2.length + 1 := by simp
       rw [hlen2, List.map_append] at hown
       obtain ⟨g, cap', rfl, hg, hnc, hcm, hcells⟩ := own_cells hown (by omega)
       have hcut := ownsRow_cut hown (m := L2.length) (by omega) (by simp)
       have d7 : wr.cell? ⟨g, L2.length, none⟩ = some (.int .i64 i) := by
        have := hcells L2.length (.int .i64 i) (by simp)
        simpa using this
       rw [List.length_append, List.length_singleton] at hRL
       have K2 : Hid (KState w q (l.map Ent.uid) f' L2 (wr.setCell ⟨w1.heap.size + 1 + 1 + 1, 0, none⟩ (.slice (some ⟨g, 0, none⟩) L2.length cap'))) := by
        have := HK.out.lefts HV.out (GrownBy.of_ext _ (Ext.refl _)) HO.out hcut
        rw [HL3.out] at this
        exact q_ this
       have hal : Alike S w (wr.setCell ⟨w1.heap.size + 1 + 1 + 1, 0, none⟩ (.slice (some ⟨g, 0, none⟩) L2.length cap')) := Alike.of_ext K2.out.ext HS.out
       obtain ⟨b, o, rfl, hSb, hrow⟩ := HL.out (by omega)
       obtain ⟨cs, hca, hxa⟩ := hrow i x hx
       have Hca := q_ (hca.alike hSb hal)
       have Hxa := q_ (entR.alike hxa hal)
       have Hcl := q_ (entR.len hxa)
       have HI : Hid (Pass3 w q l (i :: R) (x.ps.filterMap (idx (l.map Ent.uid))) (wr.setCell ⟨w1.heap.size + 1 + 1 + 1, 0, none⟩ (.slice (some ⟨g, 0, none⟩) L2.length cap'))) := by
        refine q_ ⟨Nat.le_trans (List.length_filterMap_le _ _) (HP.out x (List.mem_of_getElem? hx)), f', L2, K2.out, ?_⟩
        have := HM.out.pop
        rwa [parN_of hx] at this
       have HH1 : Hid (∀ rest w1', Pass3 w q l (i :: R) rest w1' → OneBox w1' w1.heap.size (.map (some B)) 90 ∧ MapU w1' B (idx (l.map Ent.uid)) l.length ∧ Alike S (wr.setCell ⟨w1.heap.size + 1 + 1 + 1, 0, none⟩ (.slice (some ⟨g, 0, none⟩) L2.length cap')) w1') := by
        refine q_ ?_
        rintro rest wz ⟨_, f'', L'', hk', _⟩
        have h1 := hk'.at'
        have h2 := hk'.map
        rw [Hq.out] at h1 h2
        exact ⟨h1, h2, fun b hb => (hk'.ext.block b (HS.out b hb)).trans (K2.out.ext.block b (HS.out b hb)).symm⟩
       have HH2 : Hid (∀ k rest w1', k < (l.map Ent.uid).length → Pass3 w q l (i :: R) (k :: rest) w1' →
         Calls Tryz.prog 85 (#[.int .i64 k] ++ #[.pointer (some ⟨w1.heap.size + 1 + 1, 0, none⟩), .pointer (some ⟨w1.heap.size + 1 + 1 + 1, 0, none⟩)]) w1' fun e w' => e = .returned (.tuple #[]) ∧ Pass3 w q l (i :: R) rest w') := by
        refine q_ ?_
        intro k rest wz hk hp
        have := hp.tell (by rwa [Hml.out] at hk) (by rw [Hq.out]) hlen HP.out
        rw [show q.bB = w1.heap.size + 1 + 1 by rw [Hq.out], show q.bL = w1.heap.size + 1 + 1 + 1 by rw [Hq.out]] at this
        exact this
       clear hown hcut hcells hg hlen2 hal hca hxa hrow hSb hx HO HM2 c0
       go_wp2_with (first | refine zac rfl 49 _ rfl b (o + i * 11) rfl za0 zau Hcl.out Hca.out ?_ | (go_at_call 83; refine (each_ok (l.map Ent.uid) S x cs 85 #[.pointer (some ⟨w1.heap.size + 1 + 1, 0, none⟩), .pointer (some ⟨w1.heap.size + 1 + 1 + 1, 0, none⟩)] Tryz.enter74 (Pass3 w q l (i :: R)) w1.heap.size B l.length _ HI.out HH1.out (fun _ _ _ h k => h.later k) HH2.out Hxa.out).mono ?_; rintro e w3 ⟨rfl, hi3⟩; have HI3 := q_ hi3; clear hi3))
       go_roundw
       case rel => exact ⟨i :: R, by go_num, HI3⟩
       case measure => simp [intOf]; omega
    ·intro ut ui i w2 cnt2 hu hlu hmi hile hrg2 hlt2 hg2 hsz2 hen
     have hui := zet hmi
     have hil : i < l.length := by have := idx_lt hmi; rwa [Hml.out] at this
     have hrw : w.heap.size ≤ wa.heap.size := by
      have := HWA.out; omega
     have K2 := q_ (HK.out.other hg2 hrw (by obtain ⟨a, b, c, h⟩ := HR.out.isIter; exact ⟨_, _, _, _, h⟩))
     have HS1 := q_ (skipL_one HN.out hui hlu)
     have HR2 := q_ hrg2
     have Hlt := q_ hlt2
     have c1 := K2.out.bel.cell
     have c2 := K2.out.nats.cell (k := i) (by rw [Hq.out]; exact hil)
     rw [show q.bB = w1.heap.size + 1 + 1 by rw [Hq.out], show q.G = w1.heap.size + 1 by rw [Hq.out], show q.n = l.length by rw [Hq.out]] at c1
     rw [show q.G = w1.heap.size + 1 by rw [Hq.out]] at c2
     clear hui hmi hile hlu hlt2 hg2 hsz2 hrg2 hrw
     by_cases h0 : f i = 0
     ·have c2' : w2.cell? ⟨w1.heap.size + 1, i, none⟩ = some (.int .i64 0) := by rw [c2, h0]; rfl
      obtain ⟨v, hv, hown⟩ := K2.out.left
      have hqL : q.bL = w1.heap.size + 1 + 1 + 1 := by rw [Hq.out]
      have HV := q_ hv
      have HO := q_ hown
      have H0 := q_ h0
      rw [hqL] at hv
      have d3 := hv.cell
      have d4 := hv.free
      have hLn : L.length ≤ l.length := (zc0 HD.out fun k hk => ((HU.out k).1 hk).1).1
      have hbl : q.bL + 1 ≤ w2.heap.size := by have := K2.out.ord; omega
      have HL3 := q_ hqL
      clear c2 h0 hv hown hqL
      go_wp2_with (at_builtin; refine za1 rfl (.tmp 43) (.tmp 45) 109 rfl (q.bL + 1) 3 i0 (.int .i64 0) 1 8 Tryz.underlying109 hi hz0 hz1 hz2 rfl (by decide) v L.length (L.map fun k => Value.int .i64 (k : Nat)) rfl (zam HO.out ((Ext.refl _).alloc _)) w2.heap.size 0 1 1 [.int .i64 i] rfl rfl ?q1 ?q2 ?q3 ?q4 ?q5 ?_)
      case q1 => exact zap _ _ rfl
      case q2 => simp [Value.oneCell']
      case q3 => rw [zab]; omega
      case q4 => omega
      case q5 => simp; omega
      intro v' w3 hown' hgrow hblk
      obtain ⟨A', cap', rfl⟩ := zax hown'
      have Hfin := q_ (K2.out.later ((Ext.refl _).alloc (.cells #[.int .i64 i] 3)) |>.lefts (L' := L ++ [i]) (HV.out.block (heap_alloc_old _ _ (zad HV.out))) hgrow (zam HO.out ((Ext.refl _).alloc _)) (by simpa using hown'))
      have HR3 := q_ ((HR2.out.ext ((Ext.refl _).alloc (.cells #[.int .i64 i] 3))).own hgrow (zam HO.out ((Ext.refl _).alloc _)))
      have hb2 : OneBox w3 q.bL v 109 := HV.out.block ((hgrow.block _ (by have := zad HV.out; simp; omega) fun e => by have := (HO.out.lt _ e.symm).1; omega).trans (heap_alloc_old _ _ (zad HV.out)))
      rw [HL3.out] at hb2
      have d5 := hb2.free
      have d6 := hb2.cell
      have HB2 := q_ hb2
      clear hown' hgrow hblk hb2 d3 d4
      go_wp2_with fail
      have hfin : Pass2 w q l wa.heap.size f (fun y => left y && !decide (y = (ut, ui))) cnt2 (w3.setCell ⟨w1.heap.size + 1 + 1 + 1, 0, none⟩ (.slice A' (L.length + 1) cap')) := by
       have h1 := Hfin.out
       rw [HL3.out] at h1
       refine ⟨L ++ [i], h1, ?_, ?_, fun k => ?_⟩
       ·rw [hqB]
        exact HR3.out.apart (GrownBy.setCell w3 (w1.heap.size + 1 + 1 + 1) 0 _) HB2.out
       ·refine (List.perm_append_singleton i L).nodup_iff.2 (List.nodup_cons.2 ⟨fun h => ?_, HD.out⟩)
        have := ((HU.out i).1 h).2.1
        rw [HS1.out.1] at this; cases this
       ·obtain ⟨s1, s2, s3⟩ := HS1.out
        rw [List.mem_append, HU.out k, List.mem_singleton]
        by_cases hki : k = i
        ·subst hki
         rw [s2]
         exact ⟨fun _ => ⟨hil, rfl, H0.out⟩, fun _ => .inr rfl⟩
        ·rw [s3 k hki]; simp [hki]
      have hm3 : (w3.setCell ⟨w1.heap.size + 1 + 1 + 1, 0, none⟩ (.slice A' (L.length + 1) cap')).rangeLeft B wa.heap.size < wr.rangeLeft B wa.heap.size := by
       obtain ⟨_, _, h, _⟩ := hfin
       rw [hqB] at h
       rw [h.left_eq, HR.out.left_eq]; exact Hlt.out
      have HF := q_ hfin
      clear hfin
      go_roundw
      case rel => exact q_ ⟨_, _, HF.out⟩
      case measure => exact hm3
     ·have e0 : ((f i : Int) == 0) = false := by simpa using h0
      have H0 := q_ h0
      clear h0
      go_wp2_with fail
      have hm3 : w2.rangeLeft B wa.heap.size < wr.rangeLeft B wa.heap.size := by
       rw [HR2.out.left_eq, HR.out.left_eq]; exact Hlt.out
      have hfin : Pass2 w q l wa.heap.size f (fun y => left y && !decide (y = (ut, ui))) cnt2 w2 := by
       refine ⟨L, K2.out, by rw [hqB]; exact HR2.out, HD.out, fun k => ?_⟩
       rw [HU.out k]
       obtain ⟨s1, s2, s3⟩ := HS1.out
       by_cases hki : k = i
       ·subst hki
        rw [s1]; simp [H0.out]
       ·rw [s3 k hki]
      go_roundw
      case rel => exact q_ ⟨_, _, hfin⟩
      case measure => exact hm3
  ·intro ut ui i w2 cnt2 hu hlu hmi hile hrg2 hlt2 hg2 hsz2 hen
   have hui := zet hmi
   obtain ⟨x, hx, hxu⟩ : ∃ x, l[i]? = some x ∧ x.uid = (ut, ui) := by
    rw [List.getElem?_map] at hui
    exact Option.map_eq_some_iff.1 hui
   have hil := (List.getElem?_eq_some_iff.1 hx).1
   have hrw : w.heap.size ≤ w1.heap.size + 1 + 1 + 1 + 1 := by
    have := HK.out.ord; rw [Hq.out] at this; simp at this; omega
   have K2 := q_ (HK.out.other hg2 hrw (by obtain ⟨a, b, c, h⟩ := HR.out.isIter; exact ⟨_, _, _, _, h⟩))
   obtain ⟨b, o, rfl, hSb, hrow⟩ := HL.out (by omega)
   obtain ⟨cs, hca, hxa⟩ := hrow i x hx
   have hal : Alike S w w2 := Alike.of_ext K2.out.ext HS.out
   have Hca := q_ (hca.alike hSb hal)
   have Hxa := q_ (entR.alike hxa hal)
   have HI : Hid (Pass1 w q l (w1.heap.size + 1 + 1 + 1 + 1) (fun y => left y && !decide (y = (ut, ui))) cnt2 (x.ps.filterMap (idx (l.map Ent.uid))) w2) := by
    refine q_ ⟨f, K2.out, by rw [hqB]; exact hrg2, fun k hk => ?_⟩
    obtain ⟨s1, s2, s3⟩ := skipL_one HN.out hui hlu
    rw [cntOut_one s1 s2 s3 hil, ← HU.out k hk, parN_of hx]; simp
   have Hcl := q_ (entR.len hxa)
   have Hlt := q_ hlt2
   clear hui hx hxu hmi hile hlu hlt2 hg2 hsz2 hrg2 hca hxa hal hrow hSb hrw
   have HH1 : Hid (∀ rest w1', Pass1 w q l (w1.heap.size + 1 + 1 + 1 + 1) (fun y => left y && !decide (y = (ut, ui))) cnt2 rest w1' → OneBox w1' w1.heap.size (.map (some B)) 90 ∧ MapU w1' B (idx (l.map Ent.uid)) l.length ∧ Alike S w2 w1') := by
    refine q_ ?_
    rintro rest wz ⟨f', hk', _⟩
    have h1 := hk'.at'
    have h2 := hk'.map
    rw [Hq.out] at h1 h2
    exact ⟨h1, h2, fun b hb => (hk'.ext.block b (HS.out b hb)).trans (K2.out.ext.block b (HS.out b hb)).symm⟩
   have HH2 : Hid (∀ k rest w1', k < (l.map Ent.uid).length → Pass1 w q l (w1.heap.size + 1 + 1 + 1 + 1) (fun y => left y && !decide (y = (ut, ui))) cnt2 (k :: rest) w1' →
     Calls Tryz.prog 84 (#[.int .i64 k] ++ #[.pointer (some ⟨w1.heap.size + 1 + 1, 0, none⟩)]) w1' fun e w' => e = .returned (.tuple #[]) ∧ Pass1 w q l (w1.heap.size + 1 + 1 + 1 + 1) (fun y => left y && !decide (y = (ut, ui))) cnt2 rest w') := by
    refine q_ ?_
    intro k rest wz hk hp
    have := hp.tell (by rwa [Hml.out] at hk) (by rw [Hq.out]) hlen HP.out
    rw [show q.bB = w1.heap.size + 1 + 1 by rw [Hq.out]] at this
    exact this
   go_wp2_with (first | refine zac rfl 49 _ rfl b (o + i * 11) rfl za0 zau Hcl.out Hca.out ?_ | (go_at_call 83; refine (each_ok (l.map Ent.uid) S x cs 84 #[.pointer (some ⟨w1.heap.size + 1 + 1, 0, none⟩)] Tryz.enter73 (Pass1 w q l (w1.heap.size + 1 + 1 + 1 + 1) (fun y => left y && !decide (y = (ut, ui))) cnt2) w1.heap.size B l.length w2 HI.out HH1.out (fun _ _ _ h k => h.later k) HH2.out Hxa.out).mono ?_; rintro e w3 ⟨rfl, hi3⟩; have HI3 := q_ hi3; clear hi3))
   have hm3 : w3.rangeLeft B (w1.heap.size + 1 + 1 + 1 + 1) < wr.rangeLeft B (w1.heap.size + 1 + 1 + 1 + 1) := by
    obtain ⟨f', _, h, _⟩ := HI3.out
    rw [hqB] at h
    rw [h.left_eq, HR.out.left_eq]; exact Hlt.out
   go_roundw
   case rel => exact q_ ⟨_, _, HI3.out⟩
   case measure => exact hm3
end Go.Proofs.YtbkaffhbhimglaaGreat

/-
  The library's sort at a row of named values that a call has made itself. The conditions: none beyond the contract's own.
-/
namespace Go.Proofs.YtbkaffhbhimglaaGreat
open Go.RowKit Go.Sort
set_option maxRecDepth 100000
set_option maxHeartbeats 400000
abbrev Fld := ByteArray × Val
def FldAt (S : Nat → Prop) (w : World) (p : Fld) (cs : List Value) : Prop := ∃ c, cs = .string p.1 :: c ∧ Val.At S w p.2 c
theorem FldAt.length {S : Nat → Prop} {w : World} {p : Fld} {cs : List Value} (h : FldAt S w p cs) : cs.length = 9 := by
 obtain ⟨c, rfl, h⟩ := h
 simp [h.length]
theorem FldAt.one {S : Nat → Prop} {w : World} {p : Fld} {cs : List Value} (h : FldAt S w p cs) : ∀ u ∈ cs, u.oneCell' = true := by
 obtain ⟨c, rfl, h⟩ := h
 intro u hu
 rcases List.mem_cons.1 hu with rfl | hu
 ·rfl
 ·exact h.one u hu
theorem FldAt.alike {S : Nat → Prop} {w w' : World} {p : Fld} {cs : List Value} (h : FldAt S w p cs) (k : Alike S w w') : FldAt S w' p cs := by
 obtain ⟨c, rfl, h⟩ := h
 exact ⟨c, rfl, h.alike k⟩
theorem FldAt.mono {S S' : Nat → Prop} {w : World} {p : Fld} {cs : List Value} (h : FldAt S w p cs) (k : ∀ b, S b → S' b) : FldAt S' w p cs := by
 obtain ⟨c, rfl, h⟩ := h
 exact ⟨c, rfl, h.mono k⟩
def FlatF (S : Nat → Prop) (w : World) : List Fld → List Value → Prop
 | [], xs => xs = []
 | v :: r, xs => ∃ cs ys, xs = cs ++ ys ∧ FldAt S w v cs ∧ FlatF S w r ys
theorem FlatF.snoc {S : Nat → Prop} {w : World} {x : Fld} {cs : List Value} (hx : FldAt S w x cs) : ∀ {l : List Fld} {xs : List Value}, FlatF S w l xs → FlatF S w (l ++ [x]) (xs ++ cs)
 | [], xs, h => by
  simp only [FlatF] at h; subst h
  exact ⟨cs, [], by simp, hx, rfl⟩
 | v :: r, xs, h => by
  obtain ⟨c, ys, rfl, hv, hr⟩ := h
  exact ⟨c, ys ++ cs, by simp, hv, FlatF.snoc hx hr⟩
theorem FlatF.alike {S : Nat → Prop} {w w' : World} (k : Alike S w w') : ∀ {l : List Fld} {xs : List Value}, FlatF S w l xs → FlatF S w' l xs
 | [], _, h => h
 | _ :: _, _, ⟨c, ys, e, hv, hr⟩ => ⟨c, ys, e, hv.alike k, FlatF.alike k hr⟩
theorem FlatF.mono {S S' : Nat → Prop} {w : World} (k : ∀ b, S b → S' b) : ∀ {l : List Fld} {xs : List Value}, FlatF S w l xs → FlatF S' w l xs
 | [], _, h => h
 | _ :: _, _, ⟨c, ys, e, hv, hr⟩ => ⟨c, ys, e, hv.mono k, FlatF.mono k hr⟩
theorem FlatF.length {S : Nat → Prop} {w : World} : ∀ {l : List Fld} {xs : List Value}, FlatF S w l xs → xs.length = l.length * 9
 | [], _, h => by simp only [FlatF] at h; subst h; rfl
 | _ :: r, _, ⟨c, ys, e, hv, hr⟩ => by
  subst e
  have := hv.length
  have := FlatF.length hr
  simp; omega
theorem FlatF.get {S : Nat → Prop} {w : World} : ∀ {l : List Fld} {xs : List Value} {i : Nat} {x : Fld}, FlatF S w l xs → l[i]? = some x → ∃ cs, cs.length = 9 ∧ FldAt S w x cs ∧ ∀ j v, cs[j]? = some v → xs[i * 9 + j]? = some v
 | [], _, _, _, _, h => by simp at h
 | v :: r, _, 0, x, ⟨c, ys, e, hv, hr⟩, h => by
  simp at h; subst h; subst e
  refine ⟨c, hv.length, hv, fun j u hj => ?_⟩
  rw [List.getElem?_append_left (by simpa using (List.getElem?_eq_some_iff.1 hj).1)]
  simpa using hj
 | v :: r, _, i + 1, x, ⟨c, ys, e, hv, hr⟩, h => by
  subst e
  obtain ⟨cs, h1, h2, h3⟩ := FlatF.get hr (i := i) (x := x) (by simpa using h)
  refine ⟨cs, h1, h2, fun j u hj => ?_⟩
  have := hv.length
  rw [List.getElem?_append_right (by omega), show (i + 1) * 9 + j - c.length = i * 9 + j from by omega]
  exact h3 j u hj
theorem Tryz.agg124 : ∀ w, (isAgg 160).run Tryz.prog w = .ok true w := fun _ => by kernel_rfl
theorem Tryz.size124 : ∀ w, (Go.sizeOf 160).run Tryz.prog w = .ok 9 w := fun _ => by kernel_rfl
theorem name_ok (p q : Fld) (S : Nat → Prop) (w : World) (cp cq : List Value) (hp : FldAt S w p cp) (hq : FldAt S w q cq) :
  Calls Tryz.prog 130 #[.agg cp.toArray, .agg cq.toArray] w fun e w' => e = .returned (.int .i64 (cmpN p q)) ∧ Ext w w' := by
 obtain ⟨c1, rfl, h1⟩ := hp
 obtain ⟨c2, rfl, h2⟩ := hq
 obtain ⟨k1, b1, n1, t1, ut1, ui1, A1, l1, c1, A3, l3, c3, rfl⟩ := h1.shape
 obtain ⟨k2, b2, n2, t2, ut2, ui2, A4, l4, c4, A5, l5, c5, rfl⟩ := h2.shape
 unfold cmpN
 go_enter Tryz.func130, Tryz.ntmps130
 go_wp2_with fail
 refine (zcb p.1 q.1 _).mono ?_
 rintro e w' ⟨rfl, rfl⟩
 go_wp2_with fail
 go_ret
 exact ⟨rfl, ((Ext.refl w).alloc _).alloc _⟩
theorem cmpN_le_trans {a b d : Fld} (h1 : cmpN a b ≤ 0) (h2 : cmpN b d ≤ 0) : cmpN a d ≤ 0 := by
 have hr := (GoodAt.cmpN a).range b
 by_cases h0 : cmpN a b = 0
 ·rw [← (GoodAt.cmpN a).cong b d h0]; exact h2
 ·have := (GoodAt.cmpN a).less b d (by omega) h2; omega
section
variable {S : Nat → Prop} {w : World}
structure ElemF (S : Nat → Prop) (w : World) where
 enc : List Value
 v : Fld
 lies : FldAt S w v enc
instance : Inhabited (ElemF S w) := ⟨⟨.string ByteArray.empty :: zeroCells, (ByteArray.empty, .zero), ⟨zeroCells, rfl, Val.zero_at S w⟩⟩⟩
def ElemF.cf (x y : ElemF S w) : Int := cmpN x.v y.v
theorem ElemF.len (x : ElemF S w) : x.enc.length = 9 := x.lies.length
theorem ElemF.one (x : ElemF S w) : ∀ v ∈ x.enc, v.oneCell' = true := x.lies.one
theorem ElemF.swo : SWO (ltOf (ElemF.cf (S := S) (w := w))) where
 irrefl x := by simp [ltOf, ElemF.cf, (GoodAt.cmpN x.v).refl]
 trans x y z h1 h2 := by
  have h1 : cmpN x.v y.v < 0 := of_decide_eq_true h1
  have h2 : cmpN y.v z.v < 0 := of_decide_eq_true h2
  refine decide_eq_true (?_ : cmpN x.v z.v < 0)
  have hr := (GoodAt.cmpN x.v).range y.v
  have := (GoodAt.cmpN x.v).less y.v z.v (by omega) (by omega)
  omega
 ntrans x y z h1 h2 := by
  have h1 : ¬ cmpN x.v y.v < 0 := of_decide_eq_false h1
  have h2 : ¬ cmpN y.v z.v < 0 := of_decide_eq_false h2
  refine decide_eq_false (?_ : ¬ cmpN x.v z.v < 0)
  have t1 := (GoodAt.cmpN x.v).turn y.v
  have t2 := (GoodAt.cmpN y.v).turn z.v
  have t3 := (GoodAt.cmpN x.v).turn z.v
  have := cmpN_le_trans (a := z.v) (b := y.v) (d := x.v) (by omega) (by omega)
  omega
theorem flat_pairsF : ∀ {l : List Fld} {xs : List Value}, FlatF S w l xs → ∃ d : List (ElemF S w), d.map ElemF.v = l ∧ d.flatMap ElemF.enc = xs
 | [], _, h => ⟨[], rfl, h.symm⟩
 | x :: r, _, ⟨c, ys, e, hv, hr⟩ => by
  obtain ⟨d, h1, h2⟩ := flat_pairsF hr
  exact ⟨⟨c, x, hv⟩ :: d, by rw [List.map_cons, h1], by rw [List.flatMap_cons, h2, e]⟩
theorem pairs_flatF {w' : World} (k : Alike S w w') : ∀ d : List (ElemF S w), FlatF S w' (d.map ElemF.v) (d.flatMap ElemF.enc)
 | [] => rfl
 | x :: r => ⟨x.enc, r.flatMap ElemF.enc, by simp, x.lies.alike k, pairs_flatF k r⟩
theorem flatMap_getF : ∀ (d : List (ElemF S w)) (t : Nat), t < d.length * 9 → (d.flatMap ElemF.enc)[t]? = some ((d.toArray[t / 9]!).enc[t % 9]!)
 | [], t, h => by simp at h
 | x :: r, t, h => by
  have hx := x.len
  rw [List.flatMap_cons]
  by_cases h8 : t < 9
  ·rw [List.getElem?_append_left (by omega), Nat.div_eq_of_lt h8, Nat.mod_eq_of_lt h8]
   rw [List.getElem?_eq_getElem (by omega)]
   simp [hx, h8]
  ·rw [List.getElem?_append_right (by omega), hx, flatMap_getF r (t - 9) (by simp at h; omega)]
   have e1 : t / 9 = (t - 9) / 9 + 1 := by omega
   have e2 : t % 9 = (t - 9) % 9 := by omega
   rw [e1, e2]
   simp
theorem zdn (d : List (ElemF S w)) : (d.flatMap ElemF.enc).length = d.length * 9 := by
 induction d with
 | nil => rfl
 | cons x r ih => rw [List.flatMap_cons, List.length_append, ih, x.len]; simp; omega
theorem flatK_toListF (d : Array (ElemF S w)) : (flatK ElemF.enc 9 d).toList = d.toList.flatMap ElemF.enc := by
 apply List.ext_getElem?
 intro t
 by_cases h : t < d.size * 9
 ·rw [flatMap_getF d.toList t (by simpa using h)]
  have := get_flatK (ElemF.enc (S := S) (w := w)) 9 d t h
  rw [← this]
  have hs : t < (flatK (ElemF.enc (S := S) (w := w)) 9 d).size := by simpa using h
  rw [Array.getElem?_toList, Array.getElem?_eq_getElem hs, getElem!_pos _ t hs]
 ·rw [List.getElem?_eq_none (by simp; omega), List.getElem?_eq_none (by rw [zdn]; simp; omega)]
end
theorem Tryz.enterName : ∀ args w, (callFunc 130 args).run Tryz.prog w = .ok (.enter 130 args) w := fun _ _ => by kernel_rfl
def SortedToF (S : Nat → Prop) (base : Nat) (v : Value) (l : List Fld) (w : World) (e : Ending) (w' : World) : Prop :=
 e = .returned (.tuple #[]) ∧ ∃ l' xs', l'.Perm l ∧ l'.Pairwise (fun a b => cmpN a b ≤ 0) ∧ w'.ownsRow base 160 9 v l'.length xs' ∧ FlatF S w' l' xs' ∧ Below base w w' ∧ w.drawn ≤ w'.drawn
theorem sortF_ok (S : Nat → Prop) (base : Nat) (w : World) (v : Value) (l : List Fld) (xs : List Value) (hS : ∀ b, S b → b < w.heap.size ∧ v.ownBlock ≠ some b) (hown : w.ownsRow base 160 9 v l.length xs) (hf : FlatF S w l xs) (hl : l.length ≤ LIM) :
  Calls Tryz.prog 129 #[v, .func (.func 130) #[] #[]] w (SortedToF S base v l w) := by
 obtain ⟨hx, hv⟩ := id hown
 rcases hv with ⟨rfl, hn⟩ | ⟨g, cap, cur, rfl, hg, hh, hnc, hcm, hcur, htake⟩
 ·have h := AnyF.slices_SortFunc_none Go.Proofs.Tryz.sortF none 0 (.func (.func 130) #[] #[]) w
  refine (show Calls Tryz.prog 129 _ w _ from h).mono ?_
  rintro e w' ⟨rfl, rfl⟩
  have : l = [] := List.eq_nil_of_length_eq_zero hn
  subst this
  exact ⟨rfl, [], xs, List.Perm.refl _, List.Pairwise.nil, hown, hf, Below.refl _ _, Nat.le_refl _⟩
 ·have hSm : ∀ b, S b → b < w.heap.size ∧ b ≠ g := fun b hb => ⟨(hS b hb).1, fun e => (hS b hb).2 (by rw [e]; rfl)⟩
  obtain ⟨d, hd1, hd2⟩ := flat_pairsF hf
  have hdl : d.length = l.length := by rw [← hd1, List.length_map]
  have hgl := zad hh
  have hH : HoldsK (ElemF.enc (S := S) (w := w)) 9 w g 0 d.toArray := by
   intro j hj
   have hj' : j < d.length * 9 := by simpa using hj
   constructor
   ·rw [cell_of_row _ _ _ _ _ _ hh]
    have h1 := flatMap_getF d j hj'
    rw [get_flatK _ _ _ _ (by simpa using hj'), hd2, ← htake, List.getElem?_take] at *
    split at h1
    ·rw [Nat.zero_add]; simpa using h1
    ·cases h1
   ·exact frozen_of_row _ _ _ _ _ hh
  have hcmp : CmpLays Tryz.prog 130 #[] (ElemF.enc (S := S) (w := w)) 9 ElemF.cf g 0 d.toArray.size w := by
   intro m os dk hs x y
   have hal : Alike S w (sortWorldK ElemF.enc 9 w g 0 m dk os) := fun b hb => by
    rw [zba _ _ _ _ _ _ _ _ _ (hSm b hb).1, if_neg (Ne.symm (hSm b hb).2)]
   refine (name_ok x.v y.v S (sortWorldK ElemF.enc 9 w g 0 m dk os) x.enc y.enc (x.lies.alike hal) (y.lies.alike hal)).mono ?_
   rintro e w' ⟨rfl, hx2⟩
   obtain ⟨p, hp⟩ := regrown_of_below hx2
   exact ⟨rfl, p.d, p.os, hp⟩
  have h := AnyQ.slices_SortFunc Go.Proofs.Tryz.sortF 9 Tryz.agg124 Tryz.size124 ElemF.enc ElemF.len ElemF.one ElemF.cf ElemF.swo 130 #[] g 0 cap d.toArray w Tryz.enterName hcmp hH hgl (by simp [hdl]; rw [zak] at hl; omega)
  have h' : Calls Tryz.prog 129 #[.slice (some ⟨g, 0, none⟩) d.toArray.size cap, .func (.func 130) #[] #[]] w _ := h
  rw [show d.toArray.size = l.length by simp [hdl]] at h'
  refine h'.mono ?_
  rintro e w' ⟨rfl, d', n, os, ⟨hps, _, hperm⟩, hsort, rfl⟩
  have hds : d'.size = l.length := by rw [hps]; simp [hdl]
  have hperm' : d'.toList.Perm d := by
   have h1 : (d'.extract 0 l.length) = d' := by rw [← hds]; simp
   have h2 : (d.toArray.extract 0 l.length) = d.toArray := by rw [← hdl]; simp
   rw [h1, h2] at hperm
   simpa using hperm
  have hhold := holdsK_sortWorldK ElemF.enc 9 w g 0 n d.toArray d' os hgl hH hps
  have hblk : (sortWorldK ElemF.enc 9 w g 0 n d' os).heap[g]? = some (.cells (putCells id 0 (flatK ElemF.enc 9 d') cur) 160 (0, 0)) := by
   rw [zba _ _ _ _ _ _ _ _ _ hgl, if_pos rfl, hh]; rfl
  have hsz : (putCells id 0 (flatK ElemF.enc 9 d') cur).size = cur.size := by simp [putCells]
  have hother : ∀ b, b < w.heap.size → b ≠ g → (sortWorldK ElemF.enc 9 w g 0 n d' os).heap[b]? = w.heap[b]? := fun b hb hne => by
   rw [zba _ _ _ _ _ _ _ _ _ hb, if_neg (Ne.symm hne)]
  have hal : Alike S w (sortWorldK ElemF.enc 9 w g 0 n d' os) := fun b hb => hother b (hSm b hb).1 (hSm b hb).2
  refine ⟨rfl, d'.toList.map ElemF.v, d'.toList.flatMap ElemF.enc, ?_, ?_, ?_, ?_, ?_, ?_⟩
  ·rw [← hd1]; exact hperm'.map _
  ·rw [List.pairwise_map]
   refine List.pairwise_iff_getElem.2 fun i j hi hj hij => ?_
   have h1 := hsort i j (Nat.zero_le _) hij (by simpa [hds] using hj)
   have hi' : i < d'.size := by simpa using hi
   have hj' : j < d'.size := by simpa using hj
   rw [getElem!_pos d' i hi', getElem!_pos d' j hj'] at h1
   have h1 : ¬ cmpN d'[j].v d'[i].v < 0 := of_decide_eq_false h1
   have h2 := (GoodAt.cmpN (d'[i].v)).turn d'[j].v
   simp only [Array.getElem_toList]
   omega
  ·refine ⟨by rw [zdn]; simp, .inr ⟨g, cap, _, by simp [hds], hg, hblk, by simpa [hds] using hnc, hcm, by rw [hsz, hcur], ?_⟩⟩
   apply List.ext_getElem?
   intro t
   rw [List.getElem?_take]
   by_cases ht : t < d'.size * 9
   ·rw [if_pos (by simpa using ht)]
    have h1 := (hhold t (by simpa using ht)).1
    rw [cell_of_row _ _ _ _ _ _ hblk, Nat.zero_add] at h1
    rw [← flatK_toListF, Array.getElem?_toList, h1]
    have hs : t < (flatK (ElemF.enc (S := S) (w := w)) 9 d').size := by simpa using ht
    rw [Array.getElem?_toList, Array.getElem?_eq_getElem hs, getElem!_pos _ t hs]
    rfl
   ·rw [if_neg (by simpa using ht), List.getElem?_eq_none (by rw [zdn]; simp; omega)]
  ·exact pairs_flatF hal d'.toList
  ·exact ⟨rfl, rfl, rfl, size_sortWorldK_c _ _ _ _ _ _ _ _, fun b hb => hother b (by omega) (by omega)⟩
  ·simp [sortWorldK, putRowK, putRow, mapBlock, Sort.ahead, grow]
end Go.Proofs.YtbkaffhbhimglaaGreat

/-
  What the program's zbe of names and items comes to. The conditions: the names and the items lie in blocks of S, as many names as items.
-/
namespace Go.Proofs.YtbkaffhbhimglaaGreat
open Go.RowKit
open Lib renaming hid → q_
set_option maxRecDepth 100000
set_option maxHeartbeats 1600000
def ValErrIn (S : Nat → Prop) (x : Val) (er : Int) (w : World) (e : Ending) (w' : World) : Prop := ∃ cs : List Value, e = .returned (.tuple #[.agg cs.toArray, .int .i64 er]) ∧ Val.At (fun b => S b ∨ Fresh w.heap.size w' b) w' x cs ∧ Ext w w'
def zeroField : List Value := .string ByteArray.empty :: zeroCells
theorem Tryz.info124 : (Tryz.prog.info? 160).map (fun i => (i.zero, i.size, i.bytes)) = some (some (.agg zeroField.toArray), 9, 136) := by kernel_rfl
theorem Tryz.underlyingFs : Tryz.prog.underlying 158 = some (.slice 160) := by kernel_rfl
theorem field_step {base : Nat} {S : Nat → Prop} {wr W2 w2 : World} {e : TypeId} {u : Value} {n : Nat} {ys : List Fld} {xs cs : List Value} {y : Fld} (hown : wr.ownsRow base e 9 u n xs) (hf : FlatF S wr ys xs)
  (hS : ∀ b, S b → b < base ∧ b < wr.heap.size) (h1 : Ext wr W2) (hy : FldAt S wr y cs) (hg : GrownBy W2 w2 u.ownBlock) :
  FlatF S w2 (ys ++ [y]) (xs ++ cs) := by
 have hal : Alike S wr w2 := fun b hb => by
  rw [hg.block b (Nat.lt_of_lt_of_le (hS b hb).2 h1.size) (fun e => by have := (hown.lt b e.symm).1; have := (hS b hb).1; omega), h1.block b (hS b hb).2]
 exact FlatF.snoc (hy.alike hal) (hf.alike hal)
/-! ### what rises -/
theorem cmpN_zero {x y : Fld} : cmpN x y = 0 ↔ x.1 = y.1 := ⟨fun h => zek h, fun h => by unfold cmpN; rw [h]; exact (GoodAt.cmpS _).refl⟩
theorem fields_rise {l : List Fld} (hpw : l.Pairwise fun a b => cmpN a b ≤ 0) (hne : ∀ i x y, l[i]? = some x → l[i + 1]? = some y → y.1 ≠ x.1) : zb0 cmpN l := by
 by_cases h0 : l.length = 0
 ·have : l = [] := List.eq_nil_of_length_eq_zero h0
  subst this; exact List.Pairwise.nil
 ·have := zcf (c := cmpN) (l := l) (k := l.length - 1) (by omega) fun i x y _ hx hy h => hne i x y hx hy (cmpN_zero.1 h)
  rw [show l.length - 1 + 1 = l.length by omega, List.take_length] at this
  rw [← this]
  exact dedup_strict GoodAt.cmpN hpw
theorem zip_fst {names : List ByteArray} {l : List Val} (hlen : names.length = l.length) : (names.zip l).map (·.1) = names := List.map_fst_zip (by omega)
theorem nodup_at {α β : Type} {f : α → β} {l : List α} (h : (l.map f).Nodup) {i j : Nat} (hi : i < l.length) (hj : j < l.length) (e : f l[i] = f l[j]) : i = j := by
 rw [List.nodup_iff_pairwise_ne, List.pairwise_map, List.pairwise_iff_getElem] at h
 rcases Nat.lt_trichotomy i j with h1 | h1 | h1
 ·exact absurd e (h i j hi hj h1)
 ·exact h1
 ·exact absurd e.symm (h j i hj hi h1)
theorem record_rise {names : List ByteArray} {l : List Val} {l' : List Fld} (hp : l'.Perm (names.zip l)) (hlen : names.length = l.length) (hs : zb0 cmpN l') :
  zbe names l = (.mk 6 false 0 empty empty empty (l'.map (·.2)) (l'.map (·.1)), 0) := by
 have hnd : (l'.map (·.1)).Nodup := by
  rw [List.nodup_iff_pairwise_ne, List.pairwise_map]
  refine hs.imp fun {a b} h e => ?_
  rw [cmpN_zero.2 e] at h; cases h
 have hnd' : names.Nodup := by
  have := (hp.map (·.1)).nodup_iff.1 hnd
  rwa [zip_fst hlen] at this
 have hinj : ∀ x y : Fld, x ∈ l' → y ∈ l' → cmpN x y = 0 → x = y := fun x y hx hy h0 => by
  have h1 := cmpN_zero.1 h0
  obtain ⟨i, hi, rfl⟩ := List.getElem_of_mem hx
  obtain ⟨j, hj, rfl⟩ := List.getElem_of_mem hy
  have := nodup_at hnd hi hj h1
  subst this; rfl
 have hu : sortU cmpN (names.zip l) = l' := by
  refine zcn GoodAt.cmpN (za3 GoodAt.cmpN _) hs fun x => ?_
  rw [sortU_mem (P := fun x => x ∈ l') hinj (fun x hx => hp.mem_iff.2 hx)]
  exact hp.mem_iff.symm
 unfold zbe
 rw [if_pos hnd', hu]
theorem record_twice {names : List ByteArray} {l : List Val} {l' : List Fld} (hp : l'.Perm (names.zip l)) (hlen : names.length = l.length) {i : Nat} {x y : Fld} (hx : l'[i]? = some x) (hy : l'[i + 1]? = some y) (h : y.1 = x.1) :
  zbe names l = (.zero, 13) := by
 unfold zbe
 rw [if_neg]
 intro hnd
 have hnd' : (l'.map (·.1)).Nodup := (hp.map (·.1)).nodup_iff.2 (by rw [zip_fst hlen]; exact hnd)
 obtain ⟨hi, rfl⟩ := List.getElem?_eq_some_iff.1 hx
 obtain ⟨hj, rfl⟩ := List.getElem?_eq_some_iff.1 hy
 have := nodup_at hnd' hj hi h
 omega
structure Making (S : Nat → Prop) (w2 : World) (O : Nat) (l' : List Fld) (k : Nat) (wr : World) : Prop where
 grown : GrownBy w2 wr (some O)
 rows : ∃ (I N : Value) (xs : List Value), wr.heap[O]? = some (.cells #[.int .i64 6, .bool false, .int .i64 0, .string ByteArray.empty, .string ByteArray.empty, .string ByteArray.empty, I, N] 46 (0, 0)) ∧
  wr.ownsRow w2.heap.size 46 8 I k xs ∧ wr.ownsRow w2.heap.size 9 1 N k ((l'.take k).map fun p => .string p.1) ∧ Flat S wr ((l'.take k).map (·.2)) xs ∧ (∀ b, I.ownBlock = some b → N.ownBlock ≠ some b)
theorem Making.next {S : Nat → Prop} {W2 wr w3 w4 : World} {O k : Nat} {l' : List Fld} {p : Fld} {I N I' N' : Value} {xsI cs : List Value} (h : GrownBy W2 wr (some O)) (hx3 : Ext wr w3)
  (hO3 : w3.heap[O]? = some (.cells #[.int .i64 6, .bool false, .int .i64 0, .string ByteArray.empty, .string ByteArray.empty, .string ByteArray.empty, I, N] 46 (0, 0))) (hOs : O < W2.heap.size) (hinv : TwoInv w3 I N w4)
  (hI : w3.ownsRow W2.heap.size 46 8 I k xsI) (hN : w3.ownsRow W2.heap.size 9 1 N k ((l'.take k).map fun p => .string p.1)) (hf : Flat S wr ((l'.take k).map (·.2)) xsI) (hS : ∀ b, S b → b < W2.heap.size ∧ b ≠ O)
  (h5 : Longer w3 W2.heap.size k 9 1 N ((l'.take k).map fun p => .string p.1) [.string p.1] N' w4) (h11 : Longer w3 W2.heap.size k 46 8 I xsI cs I' w4) (hne : ∀ b, N'.ownBlock = some b → I'.ownBlock ≠ some b) (hp : l'[k]? = some p) (hva : Val.At S wr p.2 cs) :
  Making S W2 O l' (k + 1) ((w4.setCell ⟨O, 7, none⟩ N').setCell ⟨O, 6, none⟩ I') := by
 have hIb : ∀ b, I.ownBlock = some b → W2.heap.size ≤ b := fun b hb => (hI.lt b hb).1
 have hNb : ∀ b, N.ownBlock = some b → W2.heap.size ≤ b := fun b hb => (hN.lt b hb).1
 have hO4 := (hinv.block O (zad hO3) (fun e => by have := hIb O e; omega) (fun e => by have := hNb O e; omega)).trans hO3
 have hO5 := zbm hO4 7 N'
 have hO6 := zbm hO5 6 I'
 have g4 : GrownBy w4 ((w4.setCell ⟨O, 7, none⟩ N').setCell ⟨O, 6, none⟩ I') (some O) := (GrownBy.setCell w4 O 7 N').trans (GrownBy.setCell _ O 6 I')
 have g3 : GrownBy W2 w4 (some O) := ⟨⟨hinv.os.trans (hx3.os.trans h.os), hinv.tape.trans (hx3.tape.trans h.tape), hinv.output.trans (hx3.output.trans h.output), Nat.le_trans h.size (Nat.le_trans hx3.size hinv.size), fun b hb hbo => by
  have s1 := h.size
  have s2 := hx3.size
  rw [hinv.block b (by omega) (fun e => by have := hIb b e; omega) (fun e => by have := hNb b e; omega), hx3.block b (by omega), h.block b hb hbo]⟩, Nat.le_trans h.drawn (Nat.le_trans hx3.drawn hinv.drawn)⟩
 have hal : Alike S wr ((w4.setCell ⟨O, 7, none⟩ N').setCell ⟨O, 6, none⟩ I') := fun b hb => by
  have s1 := h.size
  have s2 := hx3.size
  have s3 := hinv.size
  obtain ⟨hb1, hb2⟩ := hS b hb
  rw [g4.block b (by omega) (fun e => by injection e with e; omega), hinv.block b (by omega) (fun e => by have := hIb b e; omega) (fun e => by have := hNb b e; omega), hx3.block b (by omega)]
 refine ⟨g3.trans g4, I', N', xsI ++ cs, hO6, ?_, ?_, ?_, fun b hb hb' => hne b hb' hb⟩
 ·exact zav h11.1 g4 fun b hb e => by injection e with e; have := (h11.1.lt b hb).1; omega
 ·rw [za8 hp, List.map_append]
  exact zav h5.1 g4 fun b hb e => by injection e with e; have := (h5.1.lt b hb).1; omega
 ·rw [za8 hp, List.map_append]
  exact Flat.snoc (hva.alike hal) (hf.alike hal)
theorem Making.fin {S S' : Nat → Prop} {w2 wr : World} {O k : Nat} {l' : List Fld} (h : Making S w2 O l' k wr) (hk : l'.length = k) (hl : k ≤ LIM) (hs : ∀ p ∈ l', p.1.size ≤ maxLen) (h1 : ∀ b, S b → S' b) (h2 : ∀ b, w2.heap.size ≤ b → b < wr.heap.size → S' b) :
  ∃ I N : Value, wr.heap[O]? = some (.cells #[.int .i64 6, .bool false, .int .i64 0, .string ByteArray.empty, .string ByteArray.empty, .string ByteArray.empty, I, N] 46 (0, 0)) ∧
   Val.At S' wr (.mk 6 false 0 empty empty empty (l'.map (·.2)) (l'.map (·.1))) [.int .i64 6, .bool false, .int .i64 0, .string ByteArray.empty, .string ByteArray.empty, .string ByteArray.empty, I, N] := by
 obtain ⟨I, N, xs, hO, hI, hN, hf, _⟩ := h.rows
 refine ⟨I, N, hO, ?_⟩
 rw [List.take_of_length_le (by omega)] at hN hf
 have e2 : (l'.map (·.2)).length = k := by rw [List.length_map, hk]
 have e1 : (l'.map (·.1)).length = k := by rw [List.length_map, hk]
 have hv := own_vals (S' := S') (by rw [e2]; exact hI) hf (by rw [e2]; exact hl) h1 fun b hb => h2 b (hI.lt b hb).1 (hI.lt b hb).2
 have hn := own_strs (S := S') (l := l'.map (·.1)) (by rw [e1, List.map_map]; exact hN) (by rw [e1]; exact hl) (fun s hs' => by
  obtain ⟨p, hp, rfl⟩ := List.mem_map.1 hs'
  exact hs p hp) fun b hb => h2 b (hN.lt b hb).1 (hN.lt b hb).2
 obtain ⟨A, cap, rfl, h3, h4⟩ := hv
 have h0 : empty.size ≤ maxLen := by rw [zab]; decide
 unfold Val.At
 exact ⟨A, cap, N, rfl, ⟨⟨by omega, by omega⟩, ⟨by omega, by omega⟩, h0, h0, h0⟩, h3, h4, hn⟩
theorem record_ok (S Sn : Nat → Prop) (names : List ByteArray) (nv : Value) (l : List Val) (v : Value) (w : World) (hS : ∀ b, S b → b < w.heap.size) (hSn : ∀ b, Sn b → b < w.heap.size) (hn : StrsAt Sn w names nv) (hl : ValsAt S w l v) (hlen : names.length = l.length) (h4 : l.length ≤ 4096) :
  Calls Tryz.prog 98 #[nv, v] w (ValErrIn S (zbe names l).1 (zbe names l).2 w) := by
 obtain ⟨A, cap, rfl, ⟨hl0, hl1, hl2⟩, hlr⟩ := hl
 obtain ⟨A', cap', rfl, hn0, hn1, hn2, hn3, hnr⟩ := hn
 rw [zak] at hl0
 rw [zab] at hl2 hn2
 have HS := q_ hS
 have HSn := q_ hSn
 have HL := q_ hlr
 have HN := q_ hnr
 have HN3 := q_ hn3
 obtain ⟨res, hres⟩ : ∃ res, res = zbe names l := ⟨_, rfl⟩
 rw [← hres]
 have HR0 := q_ hres
 clear hres
 have HE := q_ hlen
 rw [hlen] at hn1 hn0
 clear hS hSn hlr hnr hn3 hn0
 obtain ⟨i0, hi, hz0, hz1, hz2⟩ := info_parts Tryz.info124
 go_enter Tryz.func98, Tryz.ntmps98
 rw [hlen]
 clear hlen
 go_wp2_with fail
 generalize hW0 : w.alloc (.cells #[.int .i64 0, .bool false, .int .i64 0, .string ⟨#[]⟩, .string ⟨#[]⟩, .string ⟨#[]⟩, .slice none 0 0, .slice none 0 0] 46) = W0
 have hw0 : Ext w W0 := by rw [← hW0]; exact (Ext.refl w).alloc _
 have hc0 : W0.heap[w.heap.size]? = some (.cells zeroCells.toArray 46 (0, 0)) := by rw [← hW0]; exact heap_alloc_new _ _
 have hs0 : W0.heap.size = w.heap.size + 1 := by rw [← hW0]; simp
 have HW := q_ hw0
 have HC := q_ hc0
 have HS0 := q_ hs0
 have HSW := q_ (show ∀ b, S b → b < W0.heap.size from fun b hb => Nat.lt_of_lt_of_le (HS.out b hb) hw0.size)
 clear hW0 hw0 hc0 hs0
 go_loopw [6, 14] (fun u i wr => ∃ k : Nat, k ≤ l.length ∧ i = .int .i64 k ∧ Ext W0 wr ∧ Hid (∃ xs, wr.ownsRow W0.heap.size 160 9 u k xs ∧ FlatF S wr ((names.zip l).take k) xs)) (fun _ i _ => l.length - (intOf i).toNat)
 case atStart => exact ⟨0, Nat.zero_le _, rfl, Ext.refl W0, [], World.ownsRow_nil _ _ _ _, rfl⟩
 case round =>
  obtain ⟨k, hk, rfl, hext, Hown⟩ := hrel
  have HX := q_ hext
  clear hext
  by_cases hlt : k < l.length
  ·obtain ⟨b, o, rfl, hSb, hrow⟩ := HL.out (by omega)
   obtain ⟨b', o', rfl, hSb', hrow'⟩ := HN.out (by have := HE.out; omega)
   obtain ⟨x, hx⟩ : ∃ x, l[k]? = some x := ⟨_, List.getElem?_eq_getElem hlt⟩
   obtain ⟨nm, hnm⟩ : ∃ x, names[k]? = some x := ⟨_, List.getElem?_eq_getElem (by have := HE.out; omega)⟩
   obtain ⟨cs, hcl, hca, hxa⟩ := hrow.get hx
   have Hca := q_ (hca.alike hSb (Alike.of_ext (HW.out.trans HX.out) HS.out))
   have Hxa := q_ (hxa.alike (Alike.of_ext (HW.out.trans HX.out) HS.out))
   have Hx := q_ hx
   have Hnm := q_ hnm
   have hcn : wr.cell? ⟨b', o' + k, none⟩ = some (.string nm) := (hrow'.alike hSb' (Alike.of_ext (HW.out.trans HX.out) HSn.out)) k _ (by simp [hnm])
   clear hx hxa hca hrow hcl hSb hrow' hSb' hnm
   obtain ⟨k1, b1, n1, t1, ut1, ui1, A1, l1, c1, A2, l2, c2, rfl⟩ := Hxa.out.shape
   obtain ⟨xs, hown, hflat⟩ := Hown.out
   have Ho := q_ hown
   have Hf := q_ hflat
   clear hown hflat Hown
   have hb1 : k + 1 ≤ 1073741824 := by omega
   go_wp2_with (first | refine zac rfl 46 _ rfl b (o + k * 8) rfl zai zaf rfl Hca.out ?_ | (at_builtin; refine za1 rfl (.tmp 19) (.tmp 26) 158 rfl W0.heap.size 160 i0 (.agg zeroField.toArray) 9 136 Tryz.underlyingFs hi hz0 hz1 hz2 rfl (by decide) _ k xs rfl (zam Ho.out ((Ext.refl wr).alloc _)) wr.heap.size 0 1 1 [.string nm, .int .i64 k1, .bool b1, .int .i64 n1, .string t1, .string ut1, .string ui1, .slice A1 l1 c1, .slice A2 l2 c2] rfl rfl (zap _ _ (by simp)) (FldAt.one (S := S) (w := wr) (p := (nm, x)) ⟨_, rfl, Hxa.out⟩) (by rw [zab]; omega) (by omega) (HX.out.alloc _).size ?_))
   intro v' w2 hown' hgrow hblk
   have Ho' := q_ hown'
   have Hg := q_ hgrow
   clear hown' hgrow hblk
   go_wp2_with fail
   go_roundw
   case rel =>
    refine ⟨k + 1, by omega, by go_num, zbt (HX.out.alloc _) (zam Ho.out ((Ext.refl wr).alloc _)) Hg.out, _, Ho'.out, ?_⟩
    rw [za8 (x := (nm, x)) (List.getElem?_zip_eq_some.2 ⟨Hnm.out, Hx.out⟩)]
    exact field_step Ho.out Hf.out (fun b hb => ⟨HSW.out b hb, Nat.lt_of_lt_of_le (HSW.out b hb) HX.out.size⟩) ((Ext.refl wr).alloc _) ⟨_, rfl, Hxa.out⟩ Hg.out
   case measure => simp [intOf]; omega
  ·have hke : k = l.length := by omega
   subst hke
   obtain ⟨xs, hown, hflat⟩ := Hown.out
   obtain ⟨A6, cap6, rfl, hcap6⟩ : ∃ A6 cap6, u6 = .slice A6 l.length cap6 ∧ cap6 ≤ maxLen ∧ l.length ≤ cap6 := by
    rcases hown.2 with ⟨rfl, hn⟩ | ⟨g, cap, cur, rfl, _, _, h1, h2, _⟩
    ·exact ⟨none, 0, by rw [hn], by rw [zab]; omega, by omega⟩
    ·exact ⟨_, _, rfl, h2, h1⟩
   rw [zab] at hcap6
   obtain ⟨hc6, hc6'⟩ := hcap6
   have hzl : (names.zip l).length = l.length := by rw [List.length_zip, HE.out]; omega
   rw [List.take_of_length_le (by omega)] at hflat
   have Ho := q_ hown
   have Hf := q_ hflat
   clear hown hflat Hown
   go_wp2_with (go_at_call 129; refine (sortF_ok S W0.heap.size wr _ (names.zip l) xs (fun b hb => ⟨Nat.lt_of_lt_of_le (HSW.out b hb) HX.out.size, fun e => by have := (Ho.out.lt b e).1; have := HSW.out b hb; omega⟩) (by rw [hzl]; exact Ho.out) Hf.out (by rw [hzl, zak]; omega)).mono ?_)
   rintro e w1 ⟨rfl, l', xs', hperm, hpw, hown', hflat', hbel, hdr⟩
   have hll : l'.length = l.length := by rw [hperm.length_eq, hzl]
   rw [hll] at hown'
   have Ho1 := q_ hown'
   have Hf1 := q_ hflat'
   have HX1 : Hid (Ext W0 w1) := q_ ⟨HX.out.toBelow.trans hbel, Nat.le_trans HX.out.drawn hdr⟩
   have Hp := q_ hperm
   have Hpw := q_ hpw
   have Hll := q_ hll
   clear hown' hflat' hbel hdr hperm hpw hzl hll Ho Hf HX HL HN
   go_wp2_with fail
   go_loopw [34] (fun i wr => ∃ k : Nat, k ≤ l.length ∧ i = .int .i64 k ∧ Hid (Making S (w1.alloc (.cells #[.int .i64 6, .bool false, .int .i64 0, .string ByteArray.empty, .string ByteArray.empty, .string ByteArray.empty, .slice none 0 0, .slice none 0 0] 46)) w1.heap.size l' k wr ∧ ∀ i x y, i + 1 < k → l'[i]? = some x → l'[i + 1]? = some y → y.1 ≠ x.1)) (fun i _ => l.length - (intOf i).toNat)
   case atStart => exact ⟨0, Nat.zero_le _, rfl, ⟨GrownBy.of_ext _ (Ext.refl _), .slice none 0 0, .slice none 0 0, [], heap_alloc_new _ _, World.ownsRow_nil _ _ _ _, by simpa using World.ownsRow_nil _ _ _ _, rfl, fun b hb => by cases hb⟩, fun _ _ _ h => by omega⟩
   case round =>
    obtain ⟨k, hk, rfl, HM⟩ := hrel
    by_cases hlt : k < l.length
    ·obtain ⟨p, hp⟩ : ∃ p, l'[k]? = some p := ⟨_, List.getElem?_eq_getElem (by rw [Hll.out]; exact hlt)⟩
     obtain ⟨hm, hne⟩ := HM
     have hrowF := Ho1.out.2
     obtain ⟨cf, hcf, hfat, hfx⟩ := Hf1.out.get hp
     obtain ⟨g6, rfl, hg6, hh6⟩ : ∃ g6, A6 = some ⟨g6, 0, none⟩ ∧ W0.heap.size ≤ g6 ∧ ∃ cur, w1.heap[g6]? = some (.cells cur 160 (0, 0)) ∧ cur.toList.take (l.length * 9) = xs' := by
      rcases hrowF with ⟨_, h⟩ | ⟨g, cap, cur, h, hg, hh, _, _, _, ht⟩
      ·omega
      ·cases h; exact ⟨g, rfl, hg, cur, hh, ht⟩
     obtain ⟨cur6, hh6, ht6⟩ := hh6
     have hh6' : wr.heap[g6]? = some (.cells cur6 160 (0, 0)) := by
      rw [hm.grown.block _ (by have := zad hh6; simp; omega) (fun e => by injection e with e; have := zad hh6; omega), Below.heap_alloc _ _ _ (zad hh6)]
      exact hh6
     have hal : Alike S w1 wr := fun b hb => by
      have h1 := Nat.lt_of_lt_of_le (HSW.out b hb) HX1.out.size
      rw [hm.grown.block _ (by simp; omega) (fun e => by injection e with e; omega), Below.heap_alloc _ _ _ h1]
     have hcell6 : ∀ (i : Nat) (c : List Value), i < l.length → c.length = 9 → (∀ j v, c[j]? = some v → xs'[i * 9 + j]? = some v) → CellsAt wr g6 (i * 9) c := fun i c hi hcl hcx j v hj => by
      have h1 := hcx j v hj
      rw [← ht6, List.getElem?_take] at h1
      rw [cell_of_row _ _ _ _ _ _ hh6']
      split at h1
      ·simpa using h1
      ·cases h1
     obtain ⟨cv, rfl, hva⟩ := hfat
     obtain ⟨k1, b1, n1, t1, ut1, ui1, A1, l1, c1, A2, l2, c2, rfl⟩ := hva.shape
     have hcp := hcell6 k _ hlt hcf hfx
     have Hva := q_ (hva.alike hal)
     have Hp1 := q_ hp
     have HM := q_ hm
     have Hne := q_ hne
     have Hcp := q_ hcp
     have Hg6 := q_ (zad hh6')
     have Hcell := q_ hcell6
     clear hrowF hcf hfx hh6 ht6 hh6' hal hva hcp hp hm hne hcell6 hg6
     go_wp2_with (refine zac rfl 160 _ rfl g6 (k * 9) rfl Tryz.agg124 Tryz.size124 rfl Hcp.out ?_)
     generalize hW1 : wr.alloc (.cells #[.string p.1, .int .i64 k1, .bool b1, .int .i64 n1, .string t1, .string ut1, .string ui1, .slice A1 l1 c1, .slice A2 l2 c2] 160) = W1
     have hx1 : Ext wr W1 := by rw [← hW1]; exact (Ext.refl wr).alloc _
     have hcf : CellsAt W1 wr.heap.size 0 [.string p.1, .int .i64 k1, .bool b1, .int .i64 n1, .string t1, .string ut1, .string ui1, .slice A1 l1 c1, .slice A2 l2 c2] := by rw [← hW1]; exact zap _ _ rfl
     have HXW := q_ hx1
     have Hcf := q_ hcf
     have Hlt : Hid (wr.heap.size < W1.heap.size) := q_ (by rw [← hW1]; simp)
     clear hW1 hx1 hcf
     have f0 := zaa (show W1.cell? ⟨wr.heap.size, 0, none⟩ = some (.string p.1) by simpa using Hcf.out 0 _ rfl)
     by_cases hk0 : k = 0
     case' pos =>
      have t0 : decide (0 < k) = false := by simp; omega
      have HN' : Hid (∀ i x y, i + 1 < k + 1 → l'[i]? = some x → l'[i + 1]? = some y → y.1 ≠ x.1) := q_ fun i x y hi => by omega
      clear hk0
      refine zae (by kernel_rfl) (by kernel_rfl) ?_
      repeat (go_big_quiet_step (fail))
      refine wpQuiet_nil ?_
      intro w3 hw3
      have HX3 := q_ hw3
      clear hw3 f0
      go_wp2_with fail
     case' neg =>
      obtain ⟨q, hq⟩ : ∃ q, l'[k - 1]? = some q := ⟨_, List.getElem?_eq_getElem (by rw [Hll.out]; omega)⟩
      obtain ⟨cq, hcq, ⟨cq', rfl, hqa⟩, hqx⟩ := Hf1.out.get hq
      have f1 := zaa (show W1.cell? ⟨g6, (k - 1) * 9, none⟩ = some (.string q.1) by
       have := Hcell.out (k - 1) _ (by omega) hcq hqx
       exact (World.cell?_of_block (a := ⟨g6, (k - 1) * 9, none⟩) (HXW.out.block _ Hg6.out)).trans (by simpa using this 0 _ rfl))
      have hqn : l'[k - 1]? = some q := hq
      have t0 : decide (0 < k) = true := by simp; omega
      have q1 : IntKind.i64.wrap ((k : Int) - 1) = ((k - 1 : Nat) : Int) := by rw [show (k : Int) - 1 = ((k - 1 : Nat) : Int) by omega]; exact IntWalk.i64_in _ (by omega)
      have q2 : (0 : Int) ≤ ((k - 1 : Nat) : Int) := by omega
      have q3 : ((k - 1 : Nat) : Int) < l.length := by omega
      have q4 : k - 1 < l.length := by omega
      have Hqn := q_ hqn
      clear hq hcq hqa hqx hqn
      have Hk0 := q_ hk0
      clear hk0
      refine zae (by kernel_rfl) (by kernel_rfl) ?_
      repeat (go_big_quiet_step (fail))
      refine wpQuiet_nil ?_
      intro w3 hw3
      have HX3 := q_ hw3
      clear hw3 f0 f1 q1 q2 q3 q4
      by_cases he : p.1 = q.1
      ·have e0 : (p.1.toList == q.1.toList) = true := by rw [he]; simp
       rw [e0]
       clear e0
       have hrec := record_twice Hp.out HE.out Hqn.out (by rw [show k - 1 + 1 = k by have := Hk0.out; omega]; exact Hp1.out) he
       have hextr : Ext w w3 := by
        have h1 : Ext w (w1.alloc (.cells #[.int .i64 6, .bool false, .int .i64 0, .string ByteArray.empty, .string ByteArray.empty, .string ByteArray.empty, .slice none 0 0, .slice none 0 0] 46)) := (HW.out.trans HX1.out).alloc _
        have h2 := (HW.out.trans HX1.out).size
        exact Ext.trans ⟨h1.toBelow.trans ⟨HM.out.grown.os, HM.out.grown.tape, HM.out.grown.output, HM.out.grown.size, fun b hb => HM.out.grown.block b (Nat.lt_of_lt_of_le hb h1.size) (fun e => by injection e with e; omega)⟩, Nat.le_trans h1.drawn HM.out.grown.drawn⟩ (HXW.out.trans HX3.out)
       have hcell : w3.heap[w.heap.size]? = some (.cells zeroCells.toArray 46 (0, 0)) := by
        have h1 := HX1.out.size
        have h2 := HS0.out
        have h3 := HM.out.grown.size
        rw [(HXW.out.trans HX3.out).block _ (by simp at h3; omega), HM.out.grown.block _ (by simp; omega) (fun e => by injection e with e; omega), Below.heap_alloc _ _ _ (by omega), HX1.out.block _ (by omega)]
        exact HC.out
       have HR := q_ hrec
       have HXr := q_ hextr
       have HCl := q_ hcell
       clear he hrec hextr hcell HM Hcp Hcell Hcf HN3 Hp Hpw
       go_wp2_with (refine zah rfl 46 _ _ rfl w.heap.size 0 rfl zeroCells rfl zaf rfl 46 zeroCells.toArray HCl.out (by simp [zeroCells]) zco ?_)
       rw [HR0.out, HR.out]
       exact bodyPost_ret (v := .tuple #[.agg zeroCells.toArray, .int .i64 13]) (zaj Tryz.results98 rfl zai zaf rfl (zao HCl.out (by simp [zeroCells]))) rfl ⟨zeroCells, rfl, Val.zero_at _ _, HXr.out.setRow (Nat.le_refl _) _⟩
      have e0 : (p.1.toList == q.1.toList) = false := by rw [beq_eq_false_iff_ne]; exact fun e => he (zbs e)
      rw [e0]
      clear e0
      have HN' : Hid (∀ i x y, i + 1 < k + 1 → l'[i]? = some x → l'[i + 1]? = some y → y.1 ≠ x.1) := q_ fun i x y hi hx hy => by
       by_cases hik : i + 1 < k
       ·exact Hne.out i x y hik hx hy
       ·have hk1 : i = k - 1 := by omega
        subst hk1
        rw [Hqn.out] at hx
        rw [show k - 1 + 1 = k by have := Hk0.out; omega, Hp1.out] at hy
        cases hx; cases hy; exact he
      clear he
      go_wp2_with fail
     all_goals
      obtain ⟨I, N, xsI, hO, hI0, hN0, hfI, hne2⟩ := HM.out.rows
      obtain ⟨B, hB, hI1, hN1⟩ : ∃ B, B = (w1.alloc (.cells #[.int .i64 6, .bool false, .int .i64 0, .string ByteArray.empty, .string ByteArray.empty, .string ByteArray.empty, .slice none 0 0, .slice none 0 0] 46)).heap.size ∧
       wr.ownsRow B 46 8 I k xsI ∧ wr.ownsRow B 9 1 N k ((l'.take k).map fun p => .string p.1) := ⟨_, rfl, hI0, hN0⟩
      have hx3 : Ext wr w3 := HXW.out.trans HX3.out
      have hO3 := (hx3.block _ (zad hO)).trans hO
      have hI3 := zam hI1 hx3
      have hN3 := zam hN1 hx3
      have hF3 := Hcf.out.alike (S := fun b => b < W1.heap.size) Hlt.out (Alike.of_ext HX3.out fun _ h => h)
      have hIl : ∀ b, I.ownBlock = some b → b < w3.heap.size := fun b hb => (hI3.lt b hb).2
      have hNl : ∀ b, N.ownBlock = some b → b < w3.heap.size := fun b hb => (hN3.lt b hb).2
      have hIb : ∀ b, I.ownBlock = some b → B ≤ b := fun b hb => (hI3.lt b hb).1
      have hNb : ∀ b, N.ownBlock = some b → B ≤ b := fun b hb => (hN3.lt b hb).1
      have hBl : B ≤ w3.heap.size := by rw [hB]; exact Nat.le_trans HM.out.grown.size hx3.size
      have hF3l : wr.heap.size < w3.heap.size := Nat.lt_of_lt_of_le Hlt.out HX3.out.size
      have hcO6 : w3.cell? ⟨w1.heap.size, 7, none⟩ = some N := by rw [cell_of_row _ _ _ _ _ _ hO3]; rfl
      have hcO5 : w3.cell? ⟨w1.heap.size, 6, none⟩ = some I := by rw [cell_of_row _ _ _ _ _ _ hO3]; rfl
      have HcO6 := q_ hcO6
      have HcO5 := q_ hcO5
      have HX3' := q_ hx3
      have HO3 := q_ hO3
      have HI1 : Hid (∀ b, I.ownBlock = some b → b < wr.heap.size) := q_ fun b hb => (hI1.lt b hb).2
      have HN1 : Hid (∀ b, N.ownBlock = some b → b < wr.heap.size) := q_ fun b hb => (hN1.lt b hb).2
      have HI3 := q_ hI3
      have HN3' := q_ hN3
      have HF3 := q_ hF3
      have HIl := q_ hIl
      have HNl := q_ hNl
      have HIb := q_ hIb
      have HNb := q_ hNb
      have HfI := q_ hfI
      have Hne2 := q_ hne2
      have HB := q_ hB
      have HBl := q_ hBl
      clear hO hI0 hN0 hfI hne2 hB hI1 hN1 hx3 hO3 hI3 hN3 hF3 hIl hNl hIb hNb hBl hcO6 hcO5
      refine two_region (w3 := w3) (B := B) (O := w1.heap.size) (F := wr.heap.size) (I := I) (N := N) (k := k) (xsI := xsI) (xsN := (l'.take k).map fun p => .string p.1) (nm := p.1) (cs := [.int .i64 k1, .bool b1, .int .i64 n1, .string t1, .string ut1, .string ui1, .slice A1 l1 c1, .slice A2 l2 c2]) 9 11 53
       (by kernel_rfl) (by kernel_rfl) (fun i hi => ?_) ⟨by kernel_rfl, by kernel_rfl, by kernel_rfl, by kernel_rfl, by kernel_rfl, by kernel_rfl, by kernel_rfl, by kernel_rfl, by kernel_rfl, by kernel_rfl⟩ (by simp) (by omega) (by omega) rfl rfl HcO6.out HcO5.out HF3.out rfl Hva.out.one ?_ ?_ ?_ ?_ HI3.out HN3'.out Hne2.out HBl.out (by omega) ?_
      ·rcases (by omega : i = 0 ∨ i = 1 ∨ i = 2 ∨ i = 3 ∨ i = 4 ∨ i = 5 ∨ i = 6 ∨ i = 7 ∨ i = 8 ∨ i = 9 ∨ i = 10 ∨ i = 11 ∨ i = 12) with rfl | rfl | rfl | rfl | rfl | rfl | rfl | rfl | rfl | rfl | rfl | rfl | rfl <;> exact ⟨_, rfl, rfl, rfl, rfl⟩
      ·exact zad HO3.out
      ·exact hF3l
      ·intro b hb
       have h1 : w1.heap.size < B := by rw [HB.out]; simp
       exact ⟨fun e => by have := HIb.out b e; omega, fun e => by have := HNb.out b e; omega⟩
      ·intro b hb
       exact ⟨fun e => by have := HI1.out b e; omega, fun e => by have := HN1.out b e; omega⟩
      intro xs w4 hxl hinv h5 h11 h12 hne4
      obtain ⟨x0, x1, x2, x3, x4, x5, x6, x7, x8, x9, x10, x11, x12, rfl⟩ := list13 hxl
      clear hxl
      simp only [List.getD_cons_succ, List.getD_cons_zero] at h5 h11 h12 hne4
      subst h12
      obtain ⟨E5, q5, rfl⟩ := zax h5.1
      obtain ⟨E11, q11, rfl⟩ := zax h11.1
      have hw4O := (hinv.block w1.heap.size (zad HO3.out) (fun e => by have h1 : w1.heap.size < B := (by rw [HB.out]; simp); have := HIb.out _ e; omega) (fun e => by have h1 : w1.heap.size < B := (by rw [HB.out]; simp); have := HNb.out _ e; omega)).trans HO3.out
      have k7 : w4.cell? ⟨w1.heap.size, 7, none⟩ = some N := by rw [cell_of_row _ _ _ _ _ _ hw4O]; rfl
      have k6 : w4.cell? ⟨w1.heap.size, 6, none⟩ = some I := by rw [cell_of_row _ _ _ _ _ _ hw4O]; rfl
      have f7 : w4.frozen? ⟨w1.heap.size, 7, none⟩ = false := frozen_of_row _ _ _ _ _ hw4O
      have f6 : w4.frozen? ⟨w1.heap.size, 6, none⟩ = false := frozen_of_row _ _ _ _ _ hw4O
      have H5 := q_ h5
      have H11 := q_ h11
      have Hinv := q_ hinv
      have Hne4 := q_ hne4
      clear h5 h11 hinv hne4 hw4O
      simp only [List.take, List.drop, zaw]
      go_wp2_with fail
      go_roundw
      case rel =>
       refine ⟨k + 1, by omega, by go_num, Making.next HM.out.grown HX3'.out HO3.out (by simp) Hinv.out (by rw [← HB.out]; exact HI3.out) (by rw [← HB.out]; exact HN3'.out) HfI.out (fun b hb => ?_) (by rw [← HB.out]; exact H5.out) (by rw [← HB.out]; exact H11.out) Hne4.out Hp1.out Hva.out, HN'.out⟩
       have h1 := Nat.lt_of_lt_of_le (HSW.out b hb) HX1.out.size
       exact ⟨by simp; omega, by omega⟩
      case measure => simp [intOf]; omega
    ·have hke : k = l.length := by omega
     subst hke
     obtain ⟨hm, hne⟩ := HM
     have hlt0 : w.heap.size < wr.heap.size := by have := hm.grown.size; have := HX1.out.size; have := HS0.out; simp at *; omega
     have hcell : wr.heap[w.heap.size]? = some (.cells zeroCells.toArray 46 (0, 0)) := by
      have h1 := HX1.out.size
      have h2 := HS0.out
      rw [hm.grown.block _ (by simp; omega) (fun e => by injection e with e; omega), Below.heap_alloc _ _ _ (by omega), HX1.out.block _ (by omega)]
      exact HC.out
     have hstrict := fields_rise (l := l') Hpw.out fun i x y hx hy => hne i x y (by have := (List.getElem?_eq_some_iff.1 hy).1; have := Hll.out; omega) hx hy
     have hrec := record_rise Hp.out HE.out hstrict
     have hextf : Ext w wr := by
      have h1 : Ext w (w1.alloc (.cells #[.int .i64 6, .bool false, .int .i64 0, .string ByteArray.empty, .string ByteArray.empty, .string ByteArray.empty, .slice none 0 0, .slice none 0 0] 46)) := (HW.out.trans HX1.out).alloc _
      have h2 := (HW.out.trans HX1.out).size
      exact ⟨h1.toBelow.trans ⟨hm.grown.os, hm.grown.tape, hm.grown.output, hm.grown.size, fun b hb => hm.grown.block b (Nat.lt_of_lt_of_le hb h1.size) (fun e => by injection e with e; omega)⟩, Nat.le_trans h1.drawn hm.grown.drawn⟩
     obtain ⟨I, N, hO, hat⟩ := hm.fin (S' := fun b => (S b ∨ Fresh w.heap.size wr b) ∧ b ≠ w.heap.size) Hll.out (by rw [zak]; omega) (fun p hp => HN3.out _ (by
      have : p.1 ∈ (names.zip l).map (·.1) := List.mem_map.2 ⟨p, Hp.out.mem_iff.1 hp, rfl⟩
      rwa [zip_fst HE.out] at this)) (fun b hb => ⟨.inl hb, by have := HS.out b hb; omega⟩) (fun b h1 h2 => ⟨.inr ⟨by have := (HW.out.trans HX1.out).size; simp at h1; omega, h2⟩, by have := HX1.out.size; have := HS0.out; simp at h1; omega⟩)
     have HA := q_ hat
     have HO := q_ hO
     have HCl := q_ hcell
     have HXf := q_ hextf
     have HR := q_ hrec
     have hone := hat.one
     have HOne := q_ hone
     clear hm hne hcell hstrict hrec hextf hat hO hone
     go_wp2_with (first | refine zac rfl 46 _ rfl w1.heap.size 0 rfl zai zaf rfl (fun j v hj => by rw [cell_of_row _ _ _ _ _ _ HO.out, Nat.zero_add]; simpa using hj) ?_ | refine zah rfl 46 _ _ rfl w.heap.size 0 rfl [.int .i64 6, .bool false, .int .i64 0, .string ByteArray.empty, .string ByteArray.empty, .string ByteArray.empty, I, N] rfl zaf rfl 46 zeroCells.toArray HCl.out (by simp [zeroCells]) HOne.out ?_)
     rw [HR0.out, HR.out]
     refine bodyPost_ret (v := .tuple #[.agg #[.int .i64 6, .bool false, .int .i64 0, .string ByteArray.empty, .string ByteArray.empty, .string ByteArray.empty, I, N], .int .i64 0]) (zaj Tryz.results98 rfl zai zaf rfl (zao HCl.out (by simp [zeroCells]))) rfl ⟨[.int .i64 6, .bool false, .int .i64 0, .string ByteArray.empty, .string ByteArray.empty, .string ByteArray.empty, I, N], rfl, ?_, HXf.out.setRow (Nat.le_refl _) _⟩
     refine (HA.out.alike (w' := wr.setRow w.heap.size _) fun b hb => (GrownBy.setRow wr w.heap.size _).block b ?_ (fun e => by injection e with e; exact hb.2 e)).mono fun b hb => ?_
     ·rcases hb.1 with h | h
      ·exact Nat.lt_of_lt_of_le (HS.out b h) HXf.out.size
      ·exact h.2
     ·rcases hb.1 with h | h
      ·exact .inl h
      ·exact .inr ⟨h.1, by simpa [World.setRow] using h.2⟩
end Go.Proofs.YtbkaffhbhimglaaGreat

/-
  A statement whose order Go leaves open: each operation is shown from a relation on what is done, on the slots and on the world; then a tail in a forced order. The conditions: none (lemmas on the model).
-/
namespace Go.Proofs.YtbkaffhbhimglaaGreat
open Go.RowKit
def done (L : Nat → Bool) (i : Nat) : Nat → Bool := fun j => if j = i then true else L j
theorem done_self (L : Nat → Bool) (i : Nat) : done L i i = true := by simp [done]
theorem zc8 {L : Nat → Bool} {i j : Nat} (h : j ≠ i) : done L i j = L j := by simp [done, h]
section
variable {P : Program} {l : List Oper} {n : Nat} {a0 : Act} {J : (Nat → Bool) → List Value → World → Prop}
def InvStep (P : Program) (l : List Oper) (n : Nat) (a0 : Act) (J : (Nat → Bool) → List Value → World → Prop) (i : Nat) (o : Oper) : Prop :=
 ∀ (L : Nat → Bool) (xs : List Value) (w : World), xs.length = n → J L xs w → L i = false → (∀ j, j < n → zbf l i j = true → L j = true) → (∀ j k, j < n → k < n → L j = true → zbf l j k = true → L k = true) →
  ∀ (Q : Exit → Act → World → Prop) (K : Act → World → Prop), (∀ v w', J (done L i) (xs.set i v) w' → K ((zaw a0 (l.take n) xs).put o.dst v) w') →
   if Region.wanted o (yielded l.toArray (zaw a0 (l.take n) xs).tmps) then o.wp P (zaw a0 (l.take n) xs) w K Q else K ((zaw a0 (l.take n) xs).put o.dst undef) w
theorem inv_any (hB : monoB l n = true) (hJ : ∀ L L' xs w, (∀ i, i < n → L i = L' i) → J L xs w → J L' xs w) (hstep : ∀ i o, i < n → l[i]? = some o → InvStep P l n a0 J i o)
  {Q : Exit → Act → World → Prop} (hQ : ∀ L xs w, xs.length = n → (∀ i, i < n → L i = true) → J L xs w → wpList P l.toArray Q (l.drop n) (zaw a0 (l.take n) xs) w) :
  ∀ (k : Nat) (listed : Array Bool) (xs : List Value) (w : World), zdb n listed = k → HeadInv .any l.toArray n listed → xs.length = n → J (fun i => listed.getD i true) xs w →
   wpAny P .any l.toArray Q (k + (l.length - n)) listed (zaw a0 (l.take n) xs) w := by
 simp only [monoB, Bool.and_eq_true, Bool.or_eq_true, decide_eq_true_eq] at hB
 obtain ⟨⟨⟨⟨hn, hd⟩, hac⟩, htail⟩, hseq⟩ := hB
 intro k
 induction k with
 | zero =>
  intro listed xs w hk inv hl hI
  have hall : ∀ i, i < n → listed.getD i true = true := fun i hi => by
   have h0 := List.countP_eq_zero.1 hk i (by simpa using hi)
   simpa using h0
  have hls : listed.size = l.length := by simpa using inv.size
  have he : listed = zdc n l.length := by
   apply Array.ext_getElem?
   intro i
   by_cases hi : i < n
   ·have h1 := hall i hi
    have h2 : i < listed.size := by omega
    rw [Array.getD_eq_getD_getElem?, Array.getElem?_eq_getElem h2] at h1
    rw [Array.getElem?_eq_getElem h2]
    simp only [Option.getD_some] at h1
    simp only [zdc, h1, List.getElem?_toArray]
    rw [List.getElem?_append_left (by simpa using hi), List.getElem?_replicate, if_pos hi]
   ·by_cases hi2 : i < l.length
    ·have h1 := inv.tail i (by omega) (by simpa using hi2)
     have h2 : i < listed.size := by omega
     rw [Array.getD_eq_getD_getElem?, Array.getElem?_eq_getElem h2] at h1
     rw [Array.getElem?_eq_getElem h2]
     simp only [Option.getD_some] at h1
     simp only [zdc, h1]
     rw [List.getElem?_toArray, List.getElem?_append_right (by simpa using Nat.le_of_not_lt hi), List.getElem?_replicate]
     rw [if_pos (by simp; omega)]
    ·rw [Array.getElem?_eq_none (by omega)]
     rw [Array.getElem?_eq_none (by simp [zdc]; omega)]
  have hw := hQ _ xs w hl hall hI
  rw [Nat.zero_add]
  have := wpAny_of_seq (md := .any) (Q' := Q) (l.drop n) n listed (zaw a0 (l.take n) xs) w (fun j => by simp [List.getElem?_drop]) (by rw [he]; simpa using hseq) hw
  simpa using this
 | succ k ih =>
  intro listed xs w hk inv hl hI
  have hls : listed.size = l.length := by simpa using inv.size
  obtain ⟨i0, hi0, hu0⟩ : ∃ i, i < n ∧ listed.getD i true = false := by
   have h0 : 0 < (List.range n).countP fun i => !listed.getD i true := by unfold zdb at hk; omega
   obtain ⟨i, hi, hp⟩ := List.countP_pos_iff.1 h0
   exact ⟨i, by simpa using hi, by simpa using hp⟩
  have hready : Region.ready .any l.toArray listed ≠ [] := by
   have hmin : ∀ m i, i < m → i < n → listed.getD i true = false → ∃ j, j ∈ Region.ready .any l.toArray listed := by
    intro m
    induction m with
    | zero => intro i h; omega
    | succ m ihm =>
     intro i him hin hiu
     by_cases hex : ∃ j, j < i ∧ listed.getD j true = false
     ·obtain ⟨j, hj, hju⟩ := hex
      exact ihm j (by omega) (by omega) hju
     ·refine ⟨i, mem_ready.2 ⟨hiu, l[i]'(by omega), by simp, fun e he hb => ?_⟩⟩
      have h1 := List.all_eq_true.1 hac (l[i]'(by omega), i) (List.mem_zipIdx_iff_getElem?.2 (by rw [List.getElem?_take, if_pos hin]; exact List.getElem?_eq_getElem _))
      have h2 := Array.all_eq_true'.1 h1 e he
      simp only [hb, Bool.not_true, Bool.false_or, decide_eq_true_eq] at h2
      have h3 : listed.getD e.on true = true := by
       cases h : listed.getD e.on true with
       | true => rfl
       | false => exact absurd ⟨e.on, h2, h⟩ hex
      have h4 : e.on < listed.size := by omega
      rw [Array.getD_eq_getD_getElem?, Array.getElem?_eq_getElem h4] at h3 ⊢
      simpa using h3
   obtain ⟨j, hj⟩ := hmin (i0 + 1) i0 (by omega) hi0 hu0
   intro h; rw [h] at hj; cases hj
  rw [show k + 1 + (l.length - n) = (k + (l.length - n)) + 1 by omega]
  refine ⟨fun h => absurd h hready, fun i hi => ?_⟩
  obtain ⟨hiu, o, ho, hall⟩ := mem_ready.1 hi
  have hin : i < n := by
   rcases htail with h | ⟨⟨hnl, hs⟩, hc⟩
   ·have := (Array.getElem?_eq_some_iff.1 ho).1
    simp at this; omega
   ·rcases Nat.lt_or_ge i n with h | h
    ·exact h
    ·exact absurd hi (tail_waits hs hc (by simpa using hnl) inv _ i0 rfl hi0 hu0 i h)
  have ho' : l[i]? = some o := by simpa using ho
  have hfacts : ∀ j, j < n → zbf l i j = true → listed.getD j true = true := fun j hj hwt => by
   unfold zbf at hwt
   rw [ho'] at hwt
   obtain ⟨e, he, hbe⟩ := Array.any_eq_true'.1 hwt
   simp only [Bool.and_eq_true, beq_iff_eq] at hbe
   have h1 := hall e he hbe.1
   rw [hbe.2] at h1
   have h4 : j < listed.size := by omega
   rw [Array.getD_eq_getD_getElem?, Array.getElem?_eq_getElem h4] at h1 ⊢
   simpa using h1
  have hclosed : ∀ j m, j < n → m < n → listed.getD j true = true → zbf l j m = true → listed.getD m true = true := fun j m hj hm hjl hw => by
   unfold zbf at hw
   have hjlt : j < l.length := by omega
   rw [List.getElem?_eq_getElem hjlt] at hw
   obtain ⟨e, he, hbe⟩ := Array.any_eq_true'.1 hw
   simp only [Bool.and_eq_true, beq_iff_eq] at hbe
   have h1 := inv.closed j l[j] (by simp [hjlt]) (by
    have h4 : j < listed.size := by omega
    rw [Array.getD_eq_getD_getElem?, Array.getElem?_eq_getElem h4] at hjl ⊢
    simpa using hjl) e he hbe.1
   rw [hbe.2] at h1
   have h4 : m < listed.size := by omega
   rw [Array.getD_eq_getD_getElem?, Array.getElem?_eq_getElem h4] at h1 ⊢
   simpa using h1
  have hi2 : i < listed.size := by omega
  have hnext : ∀ v w', J (done (fun j => listed.getD j true) i) (xs.set i v) w' → wpAny P .any l.toArray Q (k + (l.length - n)) (listed.setIfInBounds i true) ((zaw a0 (l.take n) xs).put o.dst v) w' := by
   intro v w' hv
   rw [putAll_set (l.take n) xs a0 i o hd (by rw [List.getElem?_take, if_pos hin]; exact ho') (by simp; omega)]
   refine ih _ (xs.set i v) w' (by have := unlisted_set hin hiu; omega) (inv.set hi hin) (by simpa using hl) (hJ _ _ _ _ (fun j hj => ?_) hv)
   by_cases hji : j = i
   ·subst hji
    rw [done_self]; simp [hi2]
   ·rw [zc8 hji, getD_set_ne true (Ne.symm hji)]
  have hs := hstep i o hin ho' (fun j => listed.getD j true) xs w hl hI hiu hfacts hclosed Q (wpAny P .any l.toArray Q (k + (l.length - n)) (listed.setIfInBounds i true)) hnext
  unfold wpOp
  simp only [ho]
  split
  ·rename_i hw; rw [if_pos hw] at hs; exact .inl hs
  ·rename_i hw; rw [if_neg hw] at hs; exact hs
theorem region_inv0 {id : Nat} {Q : Exit → Act → World → Prop} {w : World} (hm : P.follows .mixedOrders = true) (hB : monoB l n = true) (hJ : ∀ L L' xs w, (∀ i, i < n → L i = L' i) → J L xs w → J L' xs w)
  (h0 : ∀ xs, xs.length = n → J (fun _ => false) xs w.drew) (hstep : ∀ i o, i < n → l[i]? = some o → InvStep P l n a0 J i o)
  (hQ : ∀ L xs w, xs.length = n → (∀ i, i < n → L i = true) → J L xs w → wpList P l.toArray Q (l.drop n) (zaw a0 (l.take n) xs) w) : (Code.region id l.toArray true).wp P Q a0 w := by
 refine wp_region_any hm ?_
 have hn : n ≤ l.length := by
  simp only [monoB, Bool.and_eq_true, decide_eq_true_eq] at hB
  exact hB.1.1.1.1
 have h := inv_any (Q := Q) hB hJ hstep hQ n (Array.replicate l.toArray.size false) (slotsOf a0 (l.take n)) w.drew (by
   unfold zdb
   rw [List.countP_eq_length.2 (by
    intro i hi
    have hi' : i < n := by simpa using hi
    have : i < l.length := by omega
    simp [this])]
   simp) ⟨by simp, fun j oj _ hl => (by rw [getD_replicate_false] at hl; cases hl), fun t _ ht => getD_in (by simpa using ht) (getD_replicate_false _ _)⟩ (by simp [slotsOf]; omega)
   (hJ _ _ _ _ (fun i hi => by
    have : i < l.length := by omega
    simp [this]) (h0 _ (by simp [slotsOf]; omega)))
 rw [putAll_slots] at h
 rw [show n + (l.length - n) = l.toArray.size by simp; omega] at h
 exact h
end
/-! ### the slots, by what the operations say -/
def dstIs (l : List Oper) (j t : Nat) : Bool := match l[j]? with
 | some o => o.dst == some t
 | none => false
def notDst (l : List Oper) (n t : Nat) : Bool := (l.take n).all fun o => o.dst != some t
def plainB (l : List Oper) (n size : Nat) : Bool := (l.take n).all fun o => o.guard.isNone && (match o.dst with | some d => decide (d < size) | none => true)
theorem putAll_at2 {t : Tmp} : ∀ (l : List Oper) (xs : List Value) (a : Act) (i : Nat) (o : Oper), zcc l = true → l[i]? = some o → o.dst = some t → xs.length = l.length → t < a.tmps.size → (zaw a l xs).eval (.tmp t) = xs.getD i undef
 | [], _, _, _, _, _, h, _, _, _ => by simp at h
 | _ :: _, [], _, _, _, _, _, _, h, _ => by simp at h
 | p :: r, x :: s, a, 0, o, hd, h, ho, hl, ht => by
  simp at h; subst h
  simp only [zcc, Bool.and_eq_true, ho] at hd
  rw [zaw, zde, ho, Act.eval_put_same ht]
  ·rfl
  ·intro q hq
   simpa using List.all_eq_true.1 hd.1 q hq
 | p :: r, x :: s, a, i + 1, o, hd, h, ho, hl, ht => by
  simp only [zcc, Bool.and_eq_true] at hd
  rw [zaw, putAll_at2 r s _ i o hd.2 (by simpa using h) ho (by simpa using hl) (by rw [Act.size_put]; exact ht)]
  simp
theorem region_inv {P : Program} {l : List Oper} {a0 : Act} {id : Nat} {Q : Exit → Act → World → Prop} {w : World} (n : Nat) (J : (Nat → Bool) → List Value → World → Prop) (hm : P.follows .mixedOrders = true) (hB : monoB l n = true) (hg : plainB l n a0.tmps.size = true)
  (hJ : ∀ L L' xs w, (∀ i, i < n → L i = L' i) → J L xs w → J L' xs w)
  (h0 : ∀ xs, xs.length = n → J (fun _ => false) xs w.drew)
  (hstep : ∀ i o, i < n → l[i]? = some o → ∀ (L : Nat → Bool) (xs : List Value) (w : World) (a : Act), xs.length = n → J L xs w → L i = false → (∀ j, j < n → zbf l i j = true → L j = true) → (∀ j k, j < n → k < n → L j = true → zbf l j k = true → L k = true) →
   (∀ t, notDst l n t = true → a.eval (.tmp t) = a0.eval (.tmp t)) → (∀ j t, j < n → dstIs l j t = true → a.eval (.tmp t) = xs.getD j undef) →
   ∀ (Q : Exit → Act → World → Prop) (K : Act → World → Prop), (∀ v w', J (done L i) (xs.set i v) w' → K (a.put o.dst v) w') → o.wp P a w K Q)
  (hQ : ∀ L xs w, xs.length = n → (∀ i, i < n → L i = true) → J L xs w → wpList P l.toArray Q (l.drop n) (zaw a0 (l.take n) xs) w) : (Code.region id l.toArray true).wp P Q a0 w := by
 have hB' := hB
 simp only [monoB, Bool.and_eq_true, decide_eq_true_eq] at hB'
 have hn : n ≤ l.length := hB'.1.1.1.1
 have hd : zcc (l.take n) = true := hB'.1.1.1.2
 have hln : (l.take n).length = n := by rw [List.length_take]; omega
 refine region_inv0 hm hB hJ h0 (fun i o hi ho => ?_) hQ
 intro L xs W hlen hj hL hw hc Q' K hK
 have hmem : o ∈ l.take n := List.mem_of_getElem? (i := i) (by rw [List.getElem?_take, if_pos hi]; exact ho)
 have hgd : o.guard = none := by
  have h := List.all_eq_true.1 hg o hmem
  simp only [Bool.and_eq_true] at h
  simpa using h.1
 rw [if_pos (by simp [Region.wanted, hgd])]
 refine hstep i o hi ho L xs W _ hlen hj hL hw hc (fun t ht => ?_) (fun j t hjn hjt => ?_) Q' K hK
 ·exact zde _ xs a0 fun p hp => by simpa using List.all_eq_true.1 ht p hp
 ·unfold dstIs at hjt
  have hjl : j < l.length := by omega
  rw [List.getElem?_eq_getElem hjl] at hjt
  have hjt : l[j].dst = some t := by simpa using hjt
  have hjm : (l.take n)[j]? = some l[j] := by rw [List.getElem?_take, if_pos hjn]; exact List.getElem?_eq_getElem hjl
  refine putAll_at2 _ xs a0 j l[j] hd hjm hjt (by rw [hlen, hln]) ?_
  have h := List.all_eq_true.1 hg l[j] (List.mem_of_getElem? hjm)
  rw [hjt] at h
  simp only [Bool.and_eq_true, decide_eq_true_eq] at h
  exact h.2
/-! ### operations of which some act one behind the other, and all others come to known values -/
def valOf (B : List Nat) (vals vs : List Value) (j : Nat) : Value := if j ∈ B then vs.getD (B.idxOf j) undef else vals.getD j undef
def chainedB (l : List Oper) (n : Nat) : List Nat → Bool
 | [] => true
 | [i] => decide (i < n)
 | i :: j :: r => decide (i < n) && zbf l j i && !(j :: r).contains i && chainedB l n (j :: r)
theorem chainedB_spec {l : List Oper} {n : Nat} : ∀ {B : List Nat}, chainedB l n B = true → B.Nodup ∧ (∀ i ∈ B, i < n) ∧ ∀ k i j, B[k]? = some i → B[k + 1]? = some j → zbf l j i = true
 | [], _ => ⟨List.nodup_nil, by simp, by simp⟩
 | [i], h => ⟨by simp, by simpa [chainedB] using h, by simp⟩
 | i :: j :: r, h => by
  simp only [chainedB, Bool.and_eq_true, decide_eq_true_eq] at h
  obtain ⟨⟨⟨h1, h2⟩, h3⟩, h4⟩ := h
  obtain ⟨n1, n2, n3⟩ := chainedB_spec h4
  refine ⟨List.nodup_cons.2 ⟨by simpa using h3, n1⟩, fun x hx => ?_, fun k x y hx hy => ?_⟩
  ·rcases List.mem_cons.1 hx with rfl | hx
   ·exact h1
   ·exact n2 x hx
  ·cases k with
   | zero => simp at hx hy; subst hx hy; exact h2
   | succ k => exact n3 k x y (by simpa using hx) (by simpa using hy)
theorem staged_region {P : Program} {l : List Oper} {a0 : Act} {id : Nat} {Q : Exit → Act → World → Prop} {w : World} (n : Nat) (B : List Nat) (vals : List Value) (R : List Value → World → Prop) (hm : P.follows .mixedOrders = true) (hB : monoB l n = true) (hg : plainB l n a0.tmps.size = true)
  (hc : chainedB l n B = true) (h0 : R [] w.drew)
  (hquiet : ∀ i o, i < n → i ∉ B → l[i]? = some o → ∀ (vs : List Value) (w : World) (a : Act), R vs w → (∀ t, notDst l n t = true → a.eval (.tmp t) = a0.eval (.tmp t)) →
   (∀ j t, j < n → zbf l i j = true → dstIs l j t = true → a.eval (.tmp t) = valOf B vals vs j) → (execOp a.eval o).run P w = .ok (.value (vals.getD i undef)) w)
  (hact : ∀ k i o, B[k]? = some i → l[i]? = some o → ∀ (vs : List Value) (w : World) (a : Act), vs.length = k → R vs w → (∀ t, notDst l n t = true → a.eval (.tmp t) = a0.eval (.tmp t)) →
   (∀ j t, j < n → zbf l i j = true → dstIs l j t = true → a.eval (.tmp t) = valOf B vals vs j) → ∀ (Q : Exit → Act → World → Prop) (K : Act → World → Prop), (∀ v w', R (vs ++ [v]) w' → K (a.put o.dst v) w') → o.wp P a w K Q)
  (hQ : ∀ xs vs w, xs.length = n → vs.length = B.length → R vs w → (∀ i, i < n → xs.getD i undef = valOf B vals vs i) → wpList P l.toArray Q (l.drop n) (zaw a0 (l.take n) xs) w) : (Code.region id l.toArray true).wp P Q a0 w := by
 obtain ⟨hnd, hlt, hch⟩ := chainedB_spec hc
 refine region_inv n (fun L xs w => ∃ vs : List Value, vs.length ≤ B.length ∧ (∀ k i, B[k]? = some i → (L i = true ↔ k < vs.length)) ∧ R vs w ∧ ∀ i, i < n → L i = true → xs.getD i undef = valOf B vals vs i) hm hB hg ?_ (fun xs _ => ⟨[], by simp, by simp, h0, by simp⟩) ?_ ?_
 ·rintro L L' xs w he ⟨vs, h1, h2, h3, h4⟩
  exact ⟨vs, h1, fun k i hk => by rw [← he i (hlt i (List.mem_of_getElem? hk))]; exact h2 k i hk, h3, fun i hi hl => h4 i hi (by rw [he i hi]; exact hl)⟩
 ·rintro i o hi ho L xs W a hlen ⟨vs, h1, h2, h3, h4⟩ hL hw hcl hold hat Q' K hK
  have hat' : ∀ j t, j < n → zbf l i j = true → dstIs l j t = true → a.eval (.tmp t) = valOf B vals vs j := fun j t hj hwj hd => (hat j t hj hd).trans (h4 j hj (hw j hj hwj))
  by_cases hiB : i ∈ B
  ·obtain ⟨k, hk⟩ := List.getElem?_of_mem hiB
   have hk0 : ¬ k < vs.length := fun h => by rw [(h2 k i hk).2 h] at hL; cases hL
   have hkv : vs.length = k := by
    cases k with
    | zero => omega
    | succ k =>
     obtain ⟨hkl, _⟩ := List.getElem?_eq_some_iff.1 hk
     have hk1 : B[k]? = some B[k] := List.getElem?_eq_getElem (by omega)
     have h5 := hch k _ _ hk1 hk
     have h6 := (h2 k _ hk1).1 (hw _ (hlt _ (List.mem_of_getElem? hk1)) h5)
     omega
   obtain ⟨hkl, hke⟩ := List.getElem?_eq_some_iff.1 hk
   refine hact k i o hk ho vs W a hkv h3 hold hat' Q' K fun v w' hr => hK v w' ⟨vs ++ [v], by simp; omega, fun m j hm => ?_, hr, fun j hj hjl => ?_⟩
   ·by_cases hji : j = i
    ·subst hji
     have : m = k := by
      obtain ⟨hml, hme⟩ := List.getElem?_eq_some_iff.1 hm
      exact (List.getElem_inj (h₀ := hml) (h₁ := hkl) hnd).1 (by rw [hme, hke])
     subst this
     simp [done_self]; omega
    ·rw [zc8 hji, h2 m j hm]
     have : m ≠ k := fun e => by subst e; rw [hk] at hm; cases hm; exact hji rfl
     simp; omega
   ·by_cases hji : j = i
    ·subst hji
     rw [List.getD_eq_getElem?_getD, List.getElem?_set_self (by omega)]
     unfold valOf
     rw [if_pos hiB]
     have : B.idxOf j = vs.length := by
      rw [hkv, ← hke]; exact hnd.idxOf_getElem k hkl
     simp [this]
    ·rw [List.getD_eq_getElem?_getD, List.getElem?_set_ne (Ne.symm hji), ← List.getD_eq_getElem?_getD]
     rw [zc8 hji] at hjl
     rw [h4 j hj hjl]
     unfold valOf
     split
     ·rename_i hjB
      obtain ⟨m, hm⟩ := List.getElem?_of_mem hjB
      have h6 := (h2 m j hm).1 hjl
      obtain ⟨hml, hme⟩ := List.getElem?_eq_some_iff.1 hm
      have : B.idxOf j = m := by rw [← hme]; exact hnd.idxOf_getElem m hml
      rw [this, List.getD_eq_getElem?_getD, List.getD_eq_getElem?_getD, List.getElem?_append_left h6]
     ·rfl
  ·have hrun := hquiet i o hi hiB ho vs W a h3 hold hat'
   unfold Oper.wp
   rw [hrun]
   refine hK _ _ ⟨vs, h1, fun m j hm => ?_, h3, fun j hj hjl => ?_⟩
   ·have hji : j ≠ i := fun e => hiB (e ▸ List.mem_of_getElem? hm)
    rw [zc8 hji]; exact h2 m j hm
   ·by_cases hji : j = i
    ·subst hji
     rw [List.getD_eq_getElem?_getD, List.getElem?_set_self (by omega)]
     unfold valOf
     rw [if_neg hiB]; rfl
    ·rw [List.getD_eq_getElem?_getD, List.getElem?_set_ne (Ne.symm hji), ← List.getD_eq_getElem?_getD]
     rw [zc8 hji] at hjl
     exact h4 j hj hjl
 ·rintro L xs W hlen hL ⟨vs, h1, h2, h3, h4⟩
  refine hQ xs vs W hlen ?_ h3 fun i hi => h4 i hi (hL i hi)
  rcases Nat.lt_or_ge vs.length B.length with h | h
  ·have hk : B[vs.length]? = some B[vs.length] := List.getElem?_eq_getElem h
   have := (h2 _ _ hk).1 (hL _ (hlt _ (List.mem_of_getElem? hk)))
   omega
  ·omega
end Go.Proofs.YtbkaffhbhimglaaGreat
