/-
  The library's sort at a row of named values that a call has made itself. The conditions: none beyond the contract's own.
-/
import Derived.Test.YtpkgkabcikmopaaSortV
namespace Go.Proofs.Ytpkgkabcikmopaa
open Go.RowKit Go.Sort

abbrev Fld := ByteArray × Val
def FldAt (S : Nat → Prop) (w : World) (p : Fld) (cs : List Value) : Prop := ∃ c, cs = .string p.1 :: c ∧ Val.At S w p.2 c
theorem FldAt.length {S : Nat → Prop} {w : World} {p : Fld} {cs : List Value} (h : FldAt S w p cs) : cs.length = 9 := by
  obtain ⟨c, rfl, h⟩ := h
  simp [h.length]
theorem FldAt.one {S : Nat → Prop} {w : World} {p : Fld} {cs : List Value} (h : FldAt S w p cs) : ∀ u ∈ cs, u.oneCell' = true := by
  obtain ⟨c, rfl, h⟩ := h
  intro u hu
  rcases List.mem_cons.1 hu with rfl | hu
  · rfl
  · exact h.one u hu
theorem FldAt.alike {S : Nat → Prop} {w w' : World} {p : Fld} {cs : List Value} (h : FldAt S w p cs) (k : Alike S w w') : FldAt S w' p cs := by
  obtain ⟨c, rfl, h⟩ := h
  exact ⟨c, rfl, h.alike k⟩
theorem FldAt.mono {S S' : Nat → Prop} {w : World} {p : Fld} {cs : List Value} (h : FldAt S w p cs) (k : ∀ b, S b → S' b) : FldAt S' w p cs := by
  obtain ⟨c, rfl, h⟩ := h
  exact ⟨c, rfl, h.mono k⟩

/-- cells that stand for values, one behind the other -/
def FlatF (S : Nat → Prop) (w : World) : List Fld → List Value → Prop
  | [], xs => xs = []
  | v :: r, xs => ∃ cs ys, xs = cs ++ ys ∧ FldAt S w v cs ∧ FlatF S w r ys

theorem FlatF.snoc {S : Nat → Prop} {w : World} {x : Fld} {cs : List Value} (hx : FldAt S w x cs) : ∀ {l : List Fld} {xs : List Value}, FlatF S w l xs → FlatF S w (l ++ [x]) (xs ++ cs)
  | [], xs, h => by
    simp only [FlatF] at h; subst h
    exact ⟨cs, [], by simp, hx, rfl⟩
  | v :: r, xs, h => by
    obtain ⟨c, ys, rfl, hv, hr⟩ := h
    exact ⟨c, ys ++ cs, by simp, hv, FlatF.snoc hx hr⟩
theorem FlatF.alike {S : Nat → Prop} {w w' : World} (k : Alike S w w') : ∀ {l : List Fld} {xs : List Value}, FlatF S w l xs → FlatF S w' l xs
  | [], _, h => h
  | _ :: _, _, ⟨c, ys, e, hv, hr⟩ => ⟨c, ys, e, hv.alike k, FlatF.alike k hr⟩
theorem FlatF.mono {S S' : Nat → Prop} {w : World} (k : ∀ b, S b → S' b) : ∀ {l : List Fld} {xs : List Value}, FlatF S w l xs → FlatF S' w l xs
  | [], _, h => h
  | _ :: _, _, ⟨c, ys, e, hv, hr⟩ => ⟨c, ys, e, hv.mono k, FlatF.mono k hr⟩
theorem FlatF.length {S : Nat → Prop} {w : World} : ∀ {l : List Fld} {xs : List Value}, FlatF S w l xs → xs.length = l.length * 9
  | [], _, h => by simp only [FlatF] at h; subst h; rfl
  | _ :: r, _, ⟨c, ys, e, hv, hr⟩ => by
    subst e
    have := hv.length
    have := FlatF.length hr
    simp; omega
theorem FlatF.get {S : Nat → Prop} {w : World} : ∀ {l : List Fld} {xs : List Value} {i : Nat} {x : Fld}, FlatF S w l xs → l[i]? = some x → ∃ cs, cs.length = 9 ∧ FldAt S w x cs ∧ ∀ j v, cs[j]? = some v → xs[i * 9 + j]? = some v
  | [], _, _, _, _, h => by simp at h
  | v :: r, _, 0, x, ⟨c, ys, e, hv, hr⟩, h => by
    simp at h; subst h; subst e
    refine ⟨c, hv.length, hv, fun j u hj => ?_⟩
    rw [List.getElem?_append_left (by simpa using (List.getElem?_eq_some_iff.1 hj).1)]
    simpa using hj
  | v :: r, _, i + 1, x, ⟨c, ys, e, hv, hr⟩, h => by
    subst e
    obtain ⟨cs, h1, h2, h3⟩ := FlatF.get hr (i := i) (x := x) (by simpa using h)
    refine ⟨cs, h1, h2, fun j u hj => ?_⟩
    have := hv.length
    rw [List.getElem?_append_right (by omega), show (i + 1) * 9 + j - c.length = i * 9 + j from by omega]
    exact h3 j u hj

/-- one value more behind a row of the call's own -/
theorem flatF_step {base : Nat} {wr w1 W2 w2 : World} {e : TypeId} {u v' : Value} {n c0 : Nat} {ys : List Fld} {xs cs : List Value} {y : Fld} (hown : wr.ownsRow base e 9 u n xs) (hf : FlatF (Made base wr u) wr ys xs)
    (h1 : Ext wr w1) (h2 : Ext w1 W2) (hc0 : wr.heap.size ≤ c0) (hb : base ≤ wr.heap.size) (hy : FldAt (Fresh c0 w1) w1 y cs) (hg : GrownBy W2 w2 u.ownBlock) (hv : v'.ownBlock = u.ownBlock ∨ v'.ownBlock = some W2.heap.size) :
    FlatF (Made base w2 v') w2 (ys ++ [y]) (xs ++ cs) := by
  have hlt := hown.lt
  have s1 := h1.size
  have s2 := h2.size
  have s3 := hg.size
  refine FlatF.snoc ?_ ?_
  · refine (hy.alike (w' := w2) fun b hbf => ?_).mono fun b hbf => ?_
    · obtain ⟨hb1, hb2⟩ := hbf
      rw [hg.block b (by omega) (fun e => by have := hlt b e.symm; omega), h2.block b hb2]
    · obtain ⟨hb1, hb2⟩ := hbf
      refine ⟨by omega, by omega, fun e => ?_⟩
      rcases hv with hv | hv
      · have := hlt b (hv ▸ e); omega
      · rw [hv] at e; injection e with e; omega
  · refine (FlatF.alike (w' := w2) (fun b hbf => ?_) hf).mono fun b hbf => ?_
    · obtain ⟨hb1, hb2, hb3⟩ := hbf
      rw [hg.block b (by omega) (fun e => hb3 e.symm), h2.block b (by omega), h1.block b hb2]
    · obtain ⟨hb1, hb2, hb3⟩ := hbf
      refine ⟨hb1, by omega, fun e => ?_⟩
      rcases hv with hv | hv
      · exact hb3 (hv ▸ e)
      · rw [hv] at e; injection e with e; omega


theorem Try.agg124 : ∀ w, (isAgg 124).run Try.prog w = .ok true w := fun _ => by kernel_rfl
theorem Try.size124 : ∀ w, (Go.sizeOf 124).run Try.prog w = .ok 9 w := fun _ => by kernel_rfl

set_option maxRecDepth 100000 in
theorem name_ok (p q : Fld) (S : Nat → Prop) (w : World) (cp cq : List Value) (hp : FldAt S w p cp) (hq : FldAt S w q cq) :
    Calls Try.prog 97 #[.agg cp.toArray, .agg cq.toArray] w fun e w' => e = .returned (.int .i64 (cmpN p q)) ∧ Ext w w' := by
  obtain ⟨c1, rfl, h1⟩ := hp
  obtain ⟨c2, rfl, h2⟩ := hq
  obtain ⟨k1, b1, n1, t1, ut1, ui1, A1, l1, c1, A3, l3, c3, rfl⟩ := h1.shape
  obtain ⟨k2, b2, n2, t2, ut2, ui2, A4, l4, c4, A5, l5, c5, rfl⟩ := h2.shape
  unfold cmpN
  go_enter Try.func97, Try.ntmps97
  go_wp2_with fail
  refine (compare_string p.1 q.1 _).mono ?_
  rintro e w' ⟨rfl, rfl⟩
  go_wp2_with fail
  go_ret
  exact ⟨rfl, ((Ext.refl w).alloc _).alloc _⟩

theorem cmpN_le_trans {a b d : Fld} (h1 : cmpN a b ≤ 0) (h2 : cmpN b d ≤ 0) : cmpN a d ≤ 0 := by
  have hr := (GoodAt.cmpN a).range b
  by_cases h0 : cmpN a b = 0
  · rw [← (GoodAt.cmpN a).cong b d h0]; exact h2
  · have := (GoodAt.cmpN a).less b d (by omega) h2; omega

section
variable {S : Nat → Prop} {w : World}
/-- a value, and the cells that stand for it -/
structure ElemF (S : Nat → Prop) (w : World) where
  enc : List Value
  v : Fld
  lies : FldAt S w v enc
instance : Inhabited (ElemF S w) := ⟨⟨.string ByteArray.empty :: zeroCells, (ByteArray.empty, .zero), ⟨zeroCells, rfl, Val.zero_at S w⟩⟩⟩
def ElemF.cf (x y : ElemF S w) : Int := cmpN x.v y.v

theorem ElemF.len (x : ElemF S w) : x.enc.length = 9 := x.lies.length
theorem ElemF.one (x : ElemF S w) : ∀ v ∈ x.enc, v.oneCell' = true := x.lies.one

theorem ElemF.swo : SWO (ltOf (ElemF.cf (S := S) (w := w))) where
  irrefl x := by simp [ltOf, ElemF.cf, (GoodAt.cmpN x.v).refl]
  trans x y z h1 h2 := by
    have h1 : cmpN x.v y.v < 0 := of_decide_eq_true h1
    have h2 : cmpN y.v z.v < 0 := of_decide_eq_true h2
    refine decide_eq_true (?_ : cmpN x.v z.v < 0)
    have hr := (GoodAt.cmpN x.v).range y.v
    have := (GoodAt.cmpN x.v).less y.v z.v (by omega) (by omega)
    omega
  ntrans x y z h1 h2 := by
    have h1 : ¬ cmpN x.v y.v < 0 := of_decide_eq_false h1
    have h2 : ¬ cmpN y.v z.v < 0 := of_decide_eq_false h2
    refine decide_eq_false (?_ : ¬ cmpN x.v z.v < 0)
    have t1 := (GoodAt.cmpN x.v).turn y.v
    have t2 := (GoodAt.cmpN y.v).turn z.v
    have t3 := (GoodAt.cmpN x.v).turn z.v
    have := cmpN_le_trans (a := z.v) (b := y.v) (d := x.v) (by omega) (by omega)
    omega

theorem flat_pairsF : ∀ {l : List Fld} {xs : List Value}, FlatF S w l xs → ∃ d : List (ElemF S w), d.map ElemF.v = l ∧ d.flatMap ElemF.enc = xs
  | [], _, h => ⟨[], rfl, h.symm⟩
  | x :: r, _, ⟨c, ys, e, hv, hr⟩ => by
    obtain ⟨d, h1, h2⟩ := flat_pairsF hr
    exact ⟨⟨c, x, hv⟩ :: d, by rw [List.map_cons, h1], by rw [List.flatMap_cons, h2, e]⟩
theorem pairs_flatF {w' : World} (k : Alike S w w') : ∀ d : List (ElemF S w), FlatF S w' (d.map ElemF.v) (d.flatMap ElemF.enc)
  | [] => rfl
  | x :: r => ⟨x.enc, r.flatMap ElemF.enc, by simp, x.lies.alike k, pairs_flatF k r⟩

theorem flatMap_getF : ∀ (d : List (ElemF S w)) (t : Nat), t < d.length * 9 → (d.flatMap ElemF.enc)[t]? = some ((d.toArray[t / 9]!).enc[t % 9]!)
  | [], t, h => by simp at h
  | x :: r, t, h => by
    have hx := x.len
    rw [List.flatMap_cons]
    by_cases h8 : t < 9
    · rw [List.getElem?_append_left (by omega), Nat.div_eq_of_lt h8, Nat.mod_eq_of_lt h8]
      rw [List.getElem?_eq_getElem (by omega)]
      simp [hx, h8]
    · rw [List.getElem?_append_right (by omega), hx, flatMap_getF r (t - 9) (by simp at h; omega)]
      have e1 : t / 9 = (t - 9) / 9 + 1 := by omega
      have e2 : t % 9 = (t - 9) % 9 := by omega
      rw [e1, e2]
      simp

theorem flatMap_lengthF (d : List (ElemF S w)) : (d.flatMap ElemF.enc).length = d.length * 9 := by
  induction d with
  | nil => rfl
  | cons x r ih => rw [List.flatMap_cons, List.length_append, ih, x.len]; simp; omega

theorem flatK_toListF (d : Array (ElemF S w)) : (flatK ElemF.enc 9 d).toList = d.toList.flatMap ElemF.enc := by
  apply List.ext_getElem?
  intro t
  by_cases h : t < d.size * 9
  · rw [flatMap_getF d.toList t (by simpa using h)]
    have := get_flatK (ElemF.enc (S := S) (w := w)) 9 d t h
    rw [← this]
    have hs : t < (flatK (ElemF.enc (S := S) (w := w)) 9 d).size := by simpa using h
    rw [Array.getElem?_toList, Array.getElem?_eq_getElem hs, getElem!_pos _ t hs]
  · rw [List.getElem?_eq_none (by simp; omega), List.getElem?_eq_none (by rw [flatMap_lengthF]; simp; omega)]
end

theorem Try.enterName : ∀ args w, (callFunc 97 args).run Try.prog w = .ok (.enter 97 args) w := fun _ _ => by kernel_rfl

/-- sorted, in place -/
def SortedToF (S : Nat → Prop) (base : Nat) (v : Value) (l : List Fld) (w : World) (e : Ending) (w' : World) : Prop :=
  e = .returned (.tuple #[]) ∧ ∃ l' xs', l'.Perm l ∧ l'.Pairwise (fun a b => cmpN a b ≤ 0) ∧ w'.ownsRow base 124 9 v l'.length xs' ∧ FlatF S w' l' xs' ∧ Below base w w' ∧ w.drawn ≤ w'.drawn

set_option maxHeartbeats 400000 in
theorem sortF_ok (S : Nat → Prop) (base : Nat) (w : World) (v : Value) (l : List Fld) (xs : List Value) (hS : ∀ b, S b → b < w.heap.size ∧ v.ownBlock ≠ some b) (hown : w.ownsRow base 124 9 v l.length xs) (hf : FlatF S w l xs) (hl : l.length ≤ LIM) :
    Calls Try.prog 96 #[v, .func (.func 97) #[] #[]] w (SortedToF S base v l w) := by
  obtain ⟨hx, hv⟩ := id hown
  rcases hv with ⟨rfl, hn⟩ | ⟨g, cap, cur, rfl, hg, hh, hnc, hcm, hcur, htake⟩
  · have h := AnyF.slices_SortFunc_none Go.Proofs.Try.sortF none 0 (.func (.func 97) #[] #[]) w
    refine (show Calls Try.prog 96 _ w _ from h).mono ?_
    rintro e w' ⟨rfl, rfl⟩
    have : l = [] := List.eq_nil_of_length_eq_zero hn
    subst this
    exact ⟨rfl, [], xs, List.Perm.refl _, List.Pairwise.nil, hown, hf, Below.refl _ _, Nat.le_refl _⟩
  · have hSm : ∀ b, S b → b < w.heap.size ∧ b ≠ g := fun b hb => ⟨(hS b hb).1, fun e => (hS b hb).2 (by rw [e]; rfl)⟩
    obtain ⟨d, hd1, hd2⟩ := flat_pairsF hf
    have hdl : d.length = l.length := by rw [← hd1, List.length_map]
    have hgl := Blk_lt hh
    have hH : HoldsK (ElemF.enc (S := S) (w := w)) 9 w g 0 d.toArray := by
      intro j hj
      have hj' : j < d.length * 9 := by simpa using hj
      constructor
      · rw [cell_of_row _ _ _ _ _ _ hh]
        have h1 := flatMap_getF d j hj'
        rw [get_flatK _ _ _ _ (by simpa using hj'), hd2, ← htake, List.getElem?_take] at *
        split at h1
        · rw [Nat.zero_add]; simpa using h1
        · cases h1
      · exact frozen_of_row _ _ _ _ _ hh
    have hcmp : CmpLays Try.prog 97 #[] (ElemF.enc (S := S) (w := w)) 9 ElemF.cf g 0 d.toArray.size w := by
      intro m os dk hs x y
      have hal : Alike S w (sortWorldK ElemF.enc 9 w g 0 m dk os) := fun b hb => by
        rw [heap_sortWorldK _ _ _ _ _ _ _ _ _ (hSm b hb).1, if_neg (Ne.symm (hSm b hb).2)]
      refine (name_ok x.v y.v S (sortWorldK ElemF.enc 9 w g 0 m dk os) x.enc y.enc (x.lies.alike hal) (y.lies.alike hal)).mono ?_
      rintro e w' ⟨rfl, hx2⟩
      obtain ⟨p, hp⟩ := regrown_of_below hx2
      exact ⟨rfl, p.d, p.os, hp⟩
    have h := AnyQ.slices_SortFunc Go.Proofs.Try.sortF 9 Try.agg124 Try.size124 ElemF.enc ElemF.len ElemF.one ElemF.cf ElemF.swo 97 #[] g 0 cap d.toArray w Try.enterName hcmp hH hgl (by simp [hdl]; rw [LIM_eq] at hl; omega)
    have h' : Calls Try.prog 96 #[.slice (some ⟨g, 0, none⟩) d.toArray.size cap, .func (.func 97) #[] #[]] w _ := h
    rw [show d.toArray.size = l.length by simp [hdl]] at h'
    refine h'.mono ?_
    rintro e w' ⟨rfl, d', n, os, ⟨hps, _, hperm⟩, hsort, rfl⟩
    have hds : d'.size = l.length := by rw [hps]; simp [hdl]
    have hperm' : d'.toList.Perm d := by
      have h1 : (d'.extract 0 l.length) = d' := by rw [← hds]; simp
      have h2 : (d.toArray.extract 0 l.length) = d.toArray := by rw [← hdl]; simp
      rw [h1, h2] at hperm
      simpa using hperm
    have hhold := holdsK_sortWorldK ElemF.enc 9 w g 0 n d.toArray d' os hgl hH hps
    have hblk : (sortWorldK ElemF.enc 9 w g 0 n d' os).heap[g]? = some (.cells (putCells id 0 (flatK ElemF.enc 9 d') cur) 124 (0, 0)) := by
      rw [heap_sortWorldK _ _ _ _ _ _ _ _ _ hgl, if_pos rfl, hh]; rfl
    have hsz : (putCells id 0 (flatK ElemF.enc 9 d') cur).size = cur.size := by simp [putCells]
    have hother : ∀ b, b < w.heap.size → b ≠ g → (sortWorldK ElemF.enc 9 w g 0 n d' os).heap[b]? = w.heap[b]? := fun b hb hne => by
      rw [heap_sortWorldK _ _ _ _ _ _ _ _ _ hb, if_neg (Ne.symm hne)]
    have hal : Alike S w (sortWorldK ElemF.enc 9 w g 0 n d' os) := fun b hb => hother b (hSm b hb).1 (hSm b hb).2
    refine ⟨rfl, d'.toList.map ElemF.v, d'.toList.flatMap ElemF.enc, ?_, ?_, ?_, ?_, ?_, ?_⟩
    · rw [← hd1]; exact hperm'.map _
    · rw [List.pairwise_map]
      refine List.pairwise_iff_getElem.2 fun i j hi hj hij => ?_
      have h1 := hsort i j (Nat.zero_le _) hij (by simpa [hds] using hj)
      have hi' : i < d'.size := by simpa using hi
      have hj' : j < d'.size := by simpa using hj
      rw [getElem!_pos d' i hi', getElem!_pos d' j hj'] at h1
      have h1 : ¬ cmpN d'[j].v d'[i].v < 0 := of_decide_eq_false h1
      have h2 := (GoodAt.cmpN (d'[i].v)).turn d'[j].v
      simp only [Array.getElem_toList]
      omega
    · refine ⟨by rw [flatMap_lengthF]; simp, .inr ⟨g, cap, _, by simp [hds], hg, hblk, by simpa [hds] using hnc, hcm, by rw [hsz, hcur], ?_⟩⟩
      apply List.ext_getElem?
      intro t
      rw [List.getElem?_take]
      by_cases ht : t < d'.size * 9
      · rw [if_pos (by simpa using ht)]
        have h1 := (hhold t (by simpa using ht)).1
        rw [cell_of_row _ _ _ _ _ _ hblk, Nat.zero_add] at h1
        rw [← flatK_toListF, Array.getElem?_toList, h1]
        have hs : t < (flatK (ElemF.enc (S := S) (w := w)) 9 d').size := by simpa using ht
        rw [Array.getElem?_toList, Array.getElem?_eq_getElem hs, getElem!_pos _ t hs]
        rfl
      · rw [if_neg (by simpa using ht), List.getElem?_eq_none (by rw [flatMap_lengthF]; simp; omega)]
    · exact pairs_flatF hal d'.toList
    · exact ⟨rfl, rfl, rfl, size_sortWorldK_c _ _ _ _ _ _ _ _, fun b hb => hother b (by omega) (by omega)⟩
    · simp [sortWorldK, putRowK, putRow, mapBlock, Sort.ahead, grow]
end Go.Proofs.Ytpkgkabcikmopaa
