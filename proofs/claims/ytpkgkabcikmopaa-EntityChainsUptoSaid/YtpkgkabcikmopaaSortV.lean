/-
  The library's sort at a row of values that a call has made itself. The conditions: none beyond the contract's own.
-/
import Derived.Test.YtpkgkabcikmopaaOwn
import Derived.Test.YtpkgkabcikmopaaSortP
import Derived.Shelf.SlSortCmp.NoneTotal
namespace Go.Proofs.Ytpkgkabcikmopaa
open Go.RowKit Go.Sort

theorem ord_le_trans {a b d : Val} (h1 : a.ord b ≤ 0) (h2 : b.ord d ≤ 0) : a.ord d ≤ 0 := by
  have hr := (Val.goodAt a).range b
  by_cases h0 : a.ord b = 0
  · rw [← (Val.goodAt a).cong b d h0]; exact h2
  · have := (Val.goodAt a).less b d (by omega) h2; omega

section
variable {S : Nat → Prop} {w : World}
/-- a value, and the cells that stand for it -/
structure Elem (S : Nat → Prop) (w : World) where
  enc : List Value
  v : Val
  lies : Val.At S w v enc
instance : Inhabited (Elem S w) := ⟨⟨zeroCells, .zero, Val.zero_at S w⟩⟩
def Elem.cf (x y : Elem S w) : Int := x.v.ord y.v

theorem Elem.len (x : Elem S w) : x.enc.length = 8 := x.lies.length
theorem Elem.one (x : Elem S w) : ∀ v ∈ x.enc, v.oneCell' = true := x.lies.one

theorem Elem.swo : SWO (ltOf (Elem.cf (S := S) (w := w))) where
  irrefl x := by simp [ltOf, Elem.cf, (Val.goodAt x.v).refl]
  trans x y z h1 h2 := by
    have h1 : x.v.ord y.v < 0 := of_decide_eq_true h1
    have h2 : y.v.ord z.v < 0 := of_decide_eq_true h2
    refine decide_eq_true (?_ : x.v.ord z.v < 0)
    have hr := (Val.goodAt x.v).range y.v
    have := (Val.goodAt x.v).less y.v z.v (by omega) (by omega)
    omega
  ntrans x y z h1 h2 := by
    have h1 : ¬ x.v.ord y.v < 0 := of_decide_eq_false h1
    have h2 : ¬ y.v.ord z.v < 0 := of_decide_eq_false h2
    refine decide_eq_false (?_ : ¬ x.v.ord z.v < 0)
    have t1 := (Val.goodAt x.v).turn y.v
    have t2 := (Val.goodAt y.v).turn z.v
    have t3 := (Val.goodAt x.v).turn z.v
    have := ord_le_trans (a := z.v) (b := y.v) (d := x.v) (by omega) (by omega)
    omega

theorem flat_pairs : ∀ {l : List Val} {xs : List Value}, Flat S w l xs → ∃ d : List (Elem S w), d.map Elem.v = l ∧ d.flatMap Elem.enc = xs
  | [], _, h => ⟨[], rfl, h.symm⟩
  | x :: r, _, ⟨c, ys, e, hv, hr⟩ => by
    obtain ⟨d, h1, h2⟩ := flat_pairs hr
    exact ⟨⟨c, x, hv⟩ :: d, by rw [List.map_cons, h1], by rw [List.flatMap_cons, h2, e]⟩
theorem pairs_flat {w' : World} (k : Alike S w w') : ∀ d : List (Elem S w), Flat S w' (d.map Elem.v) (d.flatMap Elem.enc)
  | [] => rfl
  | x :: r => ⟨x.enc, r.flatMap Elem.enc, by simp, x.lies.alike k, pairs_flat k r⟩

theorem flatMap_get : ∀ (d : List (Elem S w)) (t : Nat), t < d.length * 8 → (d.flatMap Elem.enc)[t]? = some ((d.toArray[t / 8]!).enc[t % 8]!)
  | [], t, h => by simp at h
  | x :: r, t, h => by
    have hx := x.len
    rw [List.flatMap_cons]
    by_cases h8 : t < 8
    · rw [List.getElem?_append_left (by omega), Nat.div_eq_of_lt h8, Nat.mod_eq_of_lt h8]
      rw [List.getElem?_eq_getElem (by omega)]
      simp [hx, h8]
    · rw [List.getElem?_append_right (by omega), hx, flatMap_get r (t - 8) (by simp at h; omega)]
      have e1 : t / 8 = (t - 8) / 8 + 1 := by omega
      have e2 : t % 8 = (t - 8) % 8 := by omega
      rw [e1, e2]
      simp

theorem flatMap_length (d : List (Elem S w)) : (d.flatMap Elem.enc).length = d.length * 8 := by
  induction d with
  | nil => rfl
  | cons x r ih => rw [List.flatMap_cons, List.length_append, ih, x.len]; simp; omega

theorem flatK_toList (d : Array (Elem S w)) : (flatK Elem.enc 8 d).toList = d.toList.flatMap Elem.enc := by
  apply List.ext_getElem?
  intro t
  by_cases h : t < d.size * 8
  · rw [flatMap_get d.toList t (by simpa using h)]
    have := get_flatK (Elem.enc (S := S) (w := w)) 8 d t h
    rw [← this]
    have hs : t < (flatK (Elem.enc (S := S) (w := w)) 8 d).size := by simpa using h
    rw [Array.getElem?_toList, Array.getElem?_eq_getElem hs, getElem!_pos _ t hs]
  · rw [List.getElem?_eq_none (by simp; omega), List.getElem?_eq_none (by rw [flatMap_length]; simp; omega)]
end

theorem Try.enterOrder : ∀ args w, (callFunc 25 args).run Try.prog w = .ok (.enter 25 args) w := fun _ _ => by kernel_rfl

/-- sorted, in place -/
def SortedTo (base : Nat) (v : Value) (l : List Val) (w : World) (e : Ending) (w' : World) : Prop :=
  e = .returned (.tuple #[]) ∧ ∃ l' xs', l'.Perm l ∧ l'.Pairwise (fun a b => a.ord b ≤ 0) ∧ w'.ownsRow base 27 8 v l'.length xs' ∧ Flat (Made base w' v) w' l' xs' ∧ Below base w w' ∧ w.drawn ≤ w'.drawn

theorem heap_sortWorldK {α : Type} [Inhabited α] (enc : α → List Value) (k : Nat) (w : World) (blk off n : Nat) (d : Array α) (os : Array Obj) (b : Nat) (hb : b < w.heap.size) :
    (sortWorldK enc k w blk off n d os).heap[b]? = if blk = b then (w.heap[b]?).map (onCells (putCells id off (flatK enc k d))) else w.heap[b]? := by
  unfold sortWorldK putRowK putRow mapBlock Sort.ahead grow
  rw [Array.getElem?_append_left (by simpa using hb), Array.getElem?_modify]

set_option maxHeartbeats 400000 in
theorem sortV_ok (base : Nat) (w : World) (v : Value) (l : List Val) (xs : List Value) (hown : w.ownsRow base 27 8 v l.length xs) (hf : Flat (Made base w v) w l xs) (hl : l.length ≤ LIM) :
    Calls Try.prog 76 #[v, .func (.func 25) #[] #[]] w (SortedTo base v l w) := by
  obtain ⟨hx, hv⟩ := id hown
  rcases hv with ⟨rfl, hn⟩ | ⟨g, cap, cur, rfl, hg, hh, hnc, hcm, hcur, htake⟩
  · have h := AnyF.slices_SortFunc_none Go.Proofs.Try.sortV none 0 (.func (.func 25) #[] #[]) w
    refine (show Calls Try.prog 76 _ w _ from h).mono ?_
    rintro e w' ⟨rfl, rfl⟩
    have : l = [] := List.eq_nil_of_length_eq_zero hn
    subst this
    exact ⟨rfl, [], xs, List.Perm.refl _, List.Pairwise.nil, hown, hf, Below.refl _ _, Nat.le_refl _⟩
  · obtain ⟨S, hSd⟩ : ∃ S : Nat → Prop, S = Made base w (.slice (some ⟨g, 0, none⟩) l.length cap) := ⟨_, rfl⟩
    have hSm : ∀ b, S b → base ≤ b ∧ b < w.heap.size ∧ b ≠ g := fun b hb => by rw [hSd] at hb; exact ⟨hb.1, hb.2.1, fun e => hb.2.2 (by rw [e]; rfl)⟩
    have hSn : ∀ (w' : World) b, S b → w.heap.size ≤ w'.heap.size → Made base w' (.slice (some ⟨g, 0, none⟩) l.length cap) b := fun w' b hb hw => by rw [hSd] at hb; exact ⟨hb.1, Nat.lt_of_lt_of_le hb.2.1 hw, hb.2.2⟩
    rw [← hSd] at hf
    clear hSd
    obtain ⟨d, hd1, hd2⟩ := flat_pairs hf
    have hdl : d.length = l.length := by rw [← hd1, List.length_map]
    have hgl := Blk_lt hh
    have hH : HoldsK (Elem.enc (S := S) (w := w)) 8 w g 0 d.toArray := by
      intro j hj
      have hj' : j < d.length * 8 := by simpa using hj
      constructor
      · rw [cell_of_row _ _ _ _ _ _ hh]
        have h1 := flatMap_get d j hj'
        rw [get_flatK _ _ _ _ (by simpa using hj'), hd2, ← htake, List.getElem?_take] at *
        split at h1
        · rw [Nat.zero_add]; simpa using h1
        · cases h1
      · exact frozen_of_row _ _ _ _ _ hh
    have hcmp : CmpLays Try.prog 25 #[] (Elem.enc (S := S) (w := w)) 8 Elem.cf g 0 d.toArray.size w := by
      intro m os dk hs x y
      have hal : Alike S w (sortWorldK Elem.enc 8 w g 0 m dk os) := fun b hb => by
        rw [heap_sortWorldK _ _ _ _ _ _ _ _ _ (hSm b hb).2.1, if_neg (Ne.symm (hSm b hb).2.2)]
      refine (order_ok _ x.v y.v _ (sortWorldK Elem.enc 8 w g 0 m dk os) x.enc y.enc (Nat.le_refl _) (fun b hb => Nat.lt_of_lt_of_le (hSm b hb).2.1 (size_sortWorldK_c _ _ _ _ _ _ _ _)) (x.lies.alike hal) (y.lies.alike hal)).mono ?_
      rintro e w' ⟨rfl, hx2⟩
      obtain ⟨p, hp⟩ := regrown_of_below hx2
      exact ⟨rfl, p.d, p.os, hp⟩
    have h := AnyQ.slices_SortFunc Go.Proofs.Try.sortV 8 Try.agg27 Try.size27 Elem.enc Elem.len Elem.one Elem.cf Elem.swo 25 #[] g 0 cap d.toArray w Try.enterOrder hcmp hH hgl (by simp [hdl]; rw [LIM_eq] at hl; omega)
    have h' : Calls Try.prog 76 #[.slice (some ⟨g, 0, none⟩) d.toArray.size cap, .func (.func 25) #[] #[]] w _ := h
    rw [show d.toArray.size = l.length by simp [hdl]] at h'
    refine h'.mono ?_
    rintro e w' ⟨rfl, d', n, os, ⟨hps, _, hperm⟩, hsort, rfl⟩
    have hds : d'.size = l.length := by rw [hps]; simp [hdl]
    have hperm' : d'.toList.Perm d := by
      have h1 : (d'.extract 0 l.length) = d' := by rw [← hds]; simp
      have h2 : (d.toArray.extract 0 l.length) = d.toArray := by rw [← hdl]; simp
      rw [h1, h2] at hperm
      simpa using hperm
    have hhold := holdsK_sortWorldK Elem.enc 8 w g 0 n d.toArray d' os hgl hH hps
    have hblk : (sortWorldK Elem.enc 8 w g 0 n d' os).heap[g]? = some (.cells (putCells id 0 (flatK Elem.enc 8 d') cur) 27 (0, 0)) := by
      rw [heap_sortWorldK _ _ _ _ _ _ _ _ _ hgl, if_pos rfl, hh]; rfl
    have hsz : (putCells id 0 (flatK Elem.enc 8 d') cur).size = cur.size := by simp [putCells]
    have hother : ∀ b, b < w.heap.size → b ≠ g → (sortWorldK Elem.enc 8 w g 0 n d' os).heap[b]? = w.heap[b]? := fun b hb hne => by
      rw [heap_sortWorldK _ _ _ _ _ _ _ _ _ hb, if_neg (Ne.symm hne)]
    have hal : Alike S w (sortWorldK Elem.enc 8 w g 0 n d' os) := fun b hb => hother b (hSm b hb).2.1 (hSm b hb).2.2
    refine ⟨rfl, d'.toList.map Elem.v, d'.toList.flatMap Elem.enc, ?_, ?_, ?_, ?_, ?_, ?_⟩
    · rw [← hd1]; exact hperm'.map _
    · rw [List.pairwise_map]
      refine List.pairwise_iff_getElem.2 fun i j hi hj hij => ?_
      have h1 := hsort i j (Nat.zero_le _) hij (by simpa [hds] using hj)
      have hi' : i < d'.size := by simpa using hi
      have hj' : j < d'.size := by simpa using hj
      rw [getElem!_pos d' i hi', getElem!_pos d' j hj'] at h1
      have h1 : ¬ d'[j].v.ord d'[i].v < 0 := of_decide_eq_false h1
      have h2 := (Val.goodAt (d'[i].v)).turn d'[j].v
      simp only [Array.getElem_toList]
      omega
    · refine ⟨by rw [flatMap_length]; simp, .inr ⟨g, cap, _, by simp [hds], hg, hblk, by simpa [hds] using hnc, hcm, by rw [hsz, hcur], ?_⟩⟩
      apply List.ext_getElem?
      intro t
      rw [List.getElem?_take]
      by_cases ht : t < d'.size * 8
      · rw [if_pos (by simpa using ht)]
        have h1 := (hhold t (by simpa using ht)).1
        rw [cell_of_row _ _ _ _ _ _ hblk, Nat.zero_add] at h1
        rw [← flatK_toList, Array.getElem?_toList, h1]
        have hs : t < (flatK (Elem.enc (S := S) (w := w)) 8 d').size := by simpa using ht
        rw [Array.getElem?_toList, Array.getElem?_eq_getElem hs, getElem!_pos _ t hs]
        rfl
      · rw [if_neg (by simpa using ht), List.getElem?_eq_none (by rw [flatMap_length]; simp; omega)]
    · exact (pairs_flat hal d'.toList).mono fun b hb => hSn _ b hb (size_sortWorldK_c _ _ _ _ _ _ _ _)
    · exact ⟨rfl, rfl, rfl, size_sortWorldK_c _ _ _ _ _ _ _ _, fun b hb => hother b (by omega) (by omega)⟩
    · simp [sortWorldK, putRowK, putRow, mapBlock, Sort.ahead, grow]
end Go.Proofs.Ytpkgkabcikmopaa
