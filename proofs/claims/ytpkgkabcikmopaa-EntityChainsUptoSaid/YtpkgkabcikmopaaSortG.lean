/-
  The library's sort at a row of things of one kind that a call has made itself. The conditions: none beyond the contract's own.
-/
import Derived.Test.YtpkgkabcikmopaaGen
import Derived.Test.YtpkgkabcikmopaaSortV
namespace Go.Proofs.Ytpkgkabcikmopaa
open Go.RowKit Go.Sort

section
variable {α : Type} {R : Rep α} {S : Nat → Prop} {w : World}
/-- a thing, and the cells that stand for it -/
structure ElemG (R : Rep α) (S : Nat → Prop) (w : World) where
  enc : List Value
  v : α
  lies : R.At S w v enc
theorem ElemG.len (x : ElemG R S w) : x.enc.length = R.size := R.len x.lies
theorem ElemG.one (x : ElemG R S w) : ∀ v ∈ x.enc, v.oneCell' = true := R.one x.lies

theorem good_le_trans {c : α → α → Int} (hg : ∀ x, GoodAt c x) {a b d : α} (h1 : c a b ≤ 0) (h2 : c b d ≤ 0) : c a d ≤ 0 := by
  have hr := (hg a).range b
  by_cases h0 : c a b = 0
  · rw [← (hg a).cong b d h0]; exact h2
  · have := (hg a).less b d (by omega) h2; omega

theorem ElemG.swo {c : α → α → Int} (hg : ∀ x, GoodAt c x) : SWO (ltOf fun x y : ElemG R S w => c x.v y.v) where
  irrefl x := by simp [ltOf, (hg x.v).refl]
  trans x y z h1 h2 := by
    have h1 : c x.v y.v < 0 := of_decide_eq_true h1
    have h2 : c y.v z.v < 0 := of_decide_eq_true h2
    refine decide_eq_true (?_ : c x.v z.v < 0)
    have hr := (hg x.v).range y.v
    have := (hg x.v).less y.v z.v (by omega) (by omega)
    omega
  ntrans x y z h1 h2 := by
    have h1 : ¬ c x.v y.v < 0 := of_decide_eq_false h1
    have h2 : ¬ c y.v z.v < 0 := of_decide_eq_false h2
    refine decide_eq_false (?_ : ¬ c x.v z.v < 0)
    have t1 := (hg x.v).turn y.v
    have t2 := (hg y.v).turn z.v
    have t3 := (hg x.v).turn z.v
    have := good_le_trans hg (a := z.v) (b := y.v) (d := x.v) (by omega) (by omega)
    omega

theorem flat_pairsG : ∀ {l : List α} {xs : List Value}, R.Flat S w l xs → ∃ d : List (ElemG R S w), d.map ElemG.v = l ∧ d.flatMap ElemG.enc = xs
  | [], _, h => ⟨[], rfl, h.symm⟩
  | x :: r, _, ⟨c, ys, e, hv, hr⟩ => by
    obtain ⟨d, h1, h2⟩ := flat_pairsG hr
    exact ⟨⟨c, x, hv⟩ :: d, by rw [List.map_cons, h1], by rw [List.flatMap_cons, h2, e]⟩
theorem pairs_flatG {w' : World} (k : Alike S w w') : ∀ d : List (ElemG R S w), R.Flat S w' (d.map ElemG.v) (d.flatMap ElemG.enc)
  | [] => rfl
  | x :: r => ⟨x.enc, r.flatMap ElemG.enc, by simp, R.alike x.lies k, pairs_flatG k r⟩

theorem flatMap_getG [Inhabited (ElemG R S w)] : ∀ (d : List (ElemG R S w)) (t : Nat), t < d.length * R.size → (d.flatMap ElemG.enc)[t]? = some ((d.toArray[t / R.size]!).enc[t % R.size]!)
  | [], t, h => by simp at h
  | x :: r, t, h => by
    have hx := x.len
    have hp := R.pos
    rw [List.flatMap_cons]
    by_cases h8 : t < R.size
    · rw [List.getElem?_append_left (by omega), Nat.div_eq_of_lt h8, Nat.mod_eq_of_lt h8]
      rw [List.getElem?_eq_getElem (by omega)]
      simp [hx, h8]
    · rw [List.length_cons, Nat.succ_mul] at h
      rw [List.getElem?_append_right (by omega), hx, flatMap_getG r (t - R.size) (by omega)]
      have e1 : t / R.size = (t - R.size) / R.size + 1 := by rw [← Nat.add_div_right _ hp, Nat.sub_add_cancel (by omega)]
      have e2 : t % R.size = (t - R.size) % R.size := by rw [← Nat.add_mod_right (t - R.size), Nat.sub_add_cancel (by omega)]
      rw [e1, e2]
      simp

theorem flatMap_lengthG (d : List (ElemG R S w)) : (d.flatMap ElemG.enc).length = d.length * R.size := by
  induction d with
  | nil => simp
  | cons x r ih => rw [List.flatMap_cons, List.length_append, ih, x.len, List.length_cons, Nat.succ_mul]; omega

theorem flatK_toListG [Inhabited (ElemG R S w)] (d : Array (ElemG R S w)) : (flatK ElemG.enc R.size d).toList = d.toList.flatMap ElemG.enc := by
  apply List.ext_getElem?
  intro t
  by_cases h : t < d.size * R.size
  · rw [flatMap_getG d.toList t (by simpa using h)]
    have := get_flatK (ElemG.enc (R := R) (S := S) (w := w)) R.size d t h
    rw [← this]
    have hs : t < (flatK (ElemG.enc (R := R) (S := S) (w := w)) R.size d).size := by simpa using h
    rw [Array.getElem?_toList, Array.getElem?_eq_getElem hs, getElem!_pos _ t hs]
  · rw [List.getElem?_eq_none (by simp; omega), List.getElem?_eq_none (by rw [flatMap_lengthG]; simp; omega)]
end

/-- sorted, in place -/
def SortedG {α : Type} (R : Rep α) (T : TypeId) (c : α → α → Int) (S : Nat → Prop) (base : Nat) (v : Value) (l : List α) (w : World) (e : Ending) (w' : World) : Prop :=
  e = .returned (.tuple #[]) ∧ ∃ l' xs', l'.Perm l ∧ l'.Pairwise (fun a b => c a b ≤ 0) ∧ w'.ownsRow base T R.size v l'.length xs' ∧ R.Flat S w' l' xs' ∧ Below base w w' ∧ w.drawn ≤ w'.drawn ∧ GrownBy w w' v.ownBlock

set_option maxHeartbeats 400000 in
theorem Rep.sort_ok {α : Type} (R : Rep α) {ρ : Go.Shelf.Ren} (L : Go.Proofs.SlLaysF0.n6 Try.prog ρ) (T : TypeId) (aE : ∀ w, (isAgg (ρ.t 24)).run Try.prog w = .ok true w) (zE : ∀ w, (Go.sizeOf (ρ.t 24)).run Try.prog w = .ok R.size w) (c : α → α → Int) (hg : ∀ x, GoodAt c x) (g : FuncId) (cb : Array Value)
    (eg : ∀ args w, (callFunc g args).run Try.prog w = .ok (.enter g args) w) (S : Nat → Prop)
    (base : Nat) (w : World) (v : Value) (l : List α) (xs : List Value) (hc : ∀ (w1 : World) (x y : α) (cx cy : List Value), GrownBy w w1 v.ownBlock → (∀ b, S b → b < w1.heap.size) → R.At S w1 x cx → R.At S w1 y cy → Calls Try.prog g (#[.agg cx.toArray, .agg cy.toArray] ++ cb) w1 fun e w' => e = .returned (.int .i64 (c x y)) ∧ Ext w1 w')
    (hS : ∀ b, S b → b < w.heap.size ∧ v.ownBlock ≠ some b) (hown : w.ownsRow base T R.size v l.length xs) (hf : R.Flat S w l xs) (hl : l.length ≤ LIM) :
    Calls Try.prog (ρ.f 6) #[v, .func (.func g) #[] cb] w (SortedG R T c S base v l w) := by
  obtain ⟨hx, hv⟩ := id hown
  rcases hv with ⟨rfl, hn⟩ | ⟨gb, cap, cur, rfl, hgb, hh, hnc, hcm, hcur, htake⟩
  · have h := AnyF.slices_SortFunc_none L none 0 (.func (.func g) #[] cb) w
    refine h.mono ?_
    rintro e w' ⟨rfl, rfl⟩
    have : l = [] := List.eq_nil_of_length_eq_zero hn
    subst this
    exact ⟨rfl, [], xs, List.Perm.refl _, List.Pairwise.nil, hown, hf, Below.refl _ _, Nat.le_refl _, GrownBy.of_ext _ (Ext.refl _)⟩
  · have hSm : ∀ b, S b → b < w.heap.size ∧ b ≠ gb := fun b hb => ⟨(hS b hb).1, fun e => (hS b hb).2 (by rw [e]; rfl)⟩
    by_cases hl0 : l.length = 0
    · have : l = [] := List.eq_nil_of_length_eq_zero hl0
      subst this
      have h := AnyF.slices_SortFunc_none L (some ⟨gb, 0, none⟩) cap (.func (.func g) #[] cb) w
      refine h.mono ?_
      rintro e w' ⟨rfl, rfl⟩
      exact ⟨rfl, [], xs, List.Perm.refl _, List.Pairwise.nil, hown, hf, Below.refl _ _, Nat.le_refl _, GrownBy.of_ext _ (Ext.refl _)⟩
    obtain ⟨d, hd1, hd2⟩ := flat_pairsG hf
    have hdl : d.length = l.length := by rw [← hd1, List.length_map]
    haveI : Inhabited (ElemG R S w) := ⟨d.head (by intro e; rw [e] at hdl; simp at hdl; omega)⟩
    have hgl := Blk_lt hh
    have hp := R.pos
    have hH : HoldsK (ElemG.enc (R := R) (S := S) (w := w)) R.size w gb 0 d.toArray := by
      intro j hj
      have hj' : j < d.length * R.size := by simpa using hj
      constructor
      · rw [cell_of_row _ _ _ _ _ _ hh]
        have h1 := flatMap_getG d j hj'
        rw [get_flatK _ _ _ _ (by simpa using hj'), hd2, ← htake, List.getElem?_take] at *
        split at h1
        · rw [Nat.zero_add]; simpa using h1
        · cases h1
      · exact frozen_of_row _ _ _ _ _ hh
    have hother : ∀ (n : Nat) (d' : Array (ElemG R S w)) (os : Array Obj) b, b < w.heap.size → b ≠ gb → (sortWorldK ElemG.enc R.size w gb 0 n d' os).heap[b]? = w.heap[b]? := fun n d' os b hb hne => by
      rw [heap_sortWorldK _ _ _ _ _ _ _ _ _ hb, if_neg (Ne.symm hne)]
    have hdr : ∀ (n : Nat) (d' : Array (ElemG R S w)) (os : Array Obj), w.drawn ≤ (sortWorldK ElemG.enc R.size w gb 0 n d' os).drawn := fun n d' os => by simp [sortWorldK, putRowK, putRow, mapBlock, Sort.ahead, grow]
    have hgrow : ∀ (n : Nat) (d' : Array (ElemG R S w)) (os : Array Obj), GrownBy w (sortWorldK ElemG.enc R.size w gb 0 n d' os) (some gb) := fun n d' os =>
      ⟨⟨rfl, rfl, rfl, size_sortWorldK_c _ _ _ _ _ _ _ _, fun b hb hne => hother n d' os b hb fun e => hne (by rw [e])⟩, hdr n d' os⟩
    have hcmp : CmpLays Try.prog g cb (ElemG.enc (R := R) (S := S) (w := w)) R.size (fun x y => c x.v y.v) gb 0 d.toArray.size w := by
      intro m os dk hs x y
      have hal : Alike S w (sortWorldK ElemG.enc R.size w gb 0 m dk os) := fun b hb => hother _ _ _ b (hSm b hb).1 (hSm b hb).2
      refine (hc (sortWorldK ElemG.enc R.size w gb 0 m dk os) x.v y.v x.enc y.enc (hgrow m dk os) (fun b hb => Nat.lt_of_lt_of_le (hSm b hb).1 (size_sortWorldK_c _ _ _ _ _ _ _ _)) (R.alike x.lies hal) (R.alike y.lies hal)).mono ?_
      rintro e w' ⟨rfl, hx2⟩
      obtain ⟨p, hp⟩ := regrown_of_below hx2
      exact ⟨rfl, p.d, p.os, hp⟩
    have h := AnyQ.slices_SortFunc L R.size aE zE ElemG.enc ElemG.len ElemG.one (fun x y => c x.v y.v) (ElemG.swo hg) g cb gb 0 cap d.toArray w eg hcmp hH hgl (by simp [hdl]; rw [LIM_eq] at hl; omega)
    rw [show d.toArray.size = l.length by simp [hdl]] at h
    refine h.mono ?_
    rintro e w' ⟨rfl, d', n, os, ⟨hps, _, hperm⟩, hsort, rfl⟩
    have hds : d'.size = l.length := by rw [hps]; simp [hdl]
    have hperm' : d'.toList.Perm d := by
      have h1 : (d'.extract 0 l.length) = d' := by rw [← hds]; simp
      have h2 : (d.toArray.extract 0 l.length) = d.toArray := by rw [← hdl]; simp
      rw [h1, h2] at hperm
      simpa using hperm
    have hhold := holdsK_sortWorldK ElemG.enc R.size w gb 0 n d.toArray d' os hgl hH hps
    have hblk : (sortWorldK ElemG.enc R.size w gb 0 n d' os).heap[gb]? = some (.cells (putCells id 0 (flatK ElemG.enc R.size d') cur) T (0, 0)) := by
      rw [heap_sortWorldK _ _ _ _ _ _ _ _ _ hgl, if_pos rfl, hh]; rfl
    have hsz : (putCells id 0 (flatK ElemG.enc R.size d') cur).size = cur.size := by simp [putCells]
    have hal : Alike S w (sortWorldK ElemG.enc R.size w gb 0 n d' os) := fun b hb => hother _ _ _ b (hSm b hb).1 (hSm b hb).2
    refine ⟨rfl, d'.toList.map ElemG.v, d'.toList.flatMap ElemG.enc, ?_, ?_, ?_, ?_, ?_, ?_, hgrow n d' os⟩
    · rw [← hd1]; exact hperm'.map _
    · rw [List.pairwise_map]
      refine List.pairwise_iff_getElem.2 fun i j hi hj hij => ?_
      have h1 := hsort i j (Nat.zero_le _) hij (by simpa [hds] using hj)
      have hi' : i < d'.size := by simpa using hi
      have hj' : j < d'.size := by simpa using hj
      rw [getElem!_pos d' i hi', getElem!_pos d' j hj'] at h1
      have h1 : ¬ c d'[j].v d'[i].v < 0 := of_decide_eq_false h1
      have h2 := (hg (d'[i].v)).turn d'[j].v
      simp only [Array.getElem_toList]
      omega
    · refine ⟨by rw [flatMap_lengthG]; simp, .inr ⟨gb, cap, _, by simp [hds], hgb, hblk, by simpa [hds] using hnc, hcm, by rw [hsz, hcur], ?_⟩⟩
      apply List.ext_getElem?
      intro t
      rw [List.getElem?_take]
      by_cases ht : t < d'.size * R.size
      · rw [if_pos (by simpa using ht)]
        have h1 := (hhold t (by simpa using ht)).1
        rw [cell_of_row _ _ _ _ _ _ hblk, Nat.zero_add] at h1
        rw [← flatK_toListG, Array.getElem?_toList, h1]
        have hs : t < (flatK (ElemG.enc (R := R) (S := S) (w := w)) R.size d').size := by simpa using ht
        rw [Array.getElem?_toList, Array.getElem?_eq_getElem hs, getElem!_pos _ t hs]
        rfl
      · rw [if_neg (by simpa using ht), List.getElem?_eq_none (by rw [flatMap_lengthG]; simp; omega)]
    · exact pairs_flatG hal d'.toList
    · exact ⟨rfl, rfl, rfl, size_sortWorldK_c _ _ _ _ _ _ _ _, fun b hb => hother _ _ _ b (by omega) (by omega)⟩
    · exact hdr _ _ _
end Go.Proofs.Ytpkgkabcikmopaa
