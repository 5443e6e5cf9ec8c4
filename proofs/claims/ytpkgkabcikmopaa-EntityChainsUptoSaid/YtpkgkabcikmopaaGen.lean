/-
  Kinds of things that lie in cells, and rows of them: read, made longer. No function of the program. The conditions: none (definitions and lemmas).
-/
import Derived.Test.YtpkgkabcikmopaaOwn
import Derived.Test.YtpkgkabcikmopaaCompact
namespace Go.Proofs.Ytpkgkabcikmopaa
open Go.RowKit

/-- how one kind of thing lies in cells -/
structure Rep (α : Type) where
  size : Nat
  pos : 0 < size
  At : (Nat → Prop) → World → α → List Value → Prop
  len : ∀ {S : Nat → Prop} {w : World} {x : α} {cs : List Value}, At S w x cs → cs.length = size
  one : ∀ {S : Nat → Prop} {w : World} {x : α} {cs : List Value}, At S w x cs → ∀ u ∈ cs, u.oneCell' = true
  alike : ∀ {S : Nat → Prop} {w w' : World} {x : α} {cs : List Value}, At S w x cs → Alike S w w' → At S w' x cs
  mono : ∀ {S S' : Nat → Prop} {w : World} {x : α} {cs : List Value}, At S w x cs → (∀ b, S b → S' b) → At S' w x cs

section
variable {α : Type} (R : Rep α)
/-- a row of them -/
def Rep.RowAt (S : Nat → Prop) (w : World) (l : List α) (b o : Nat) : Prop := ∀ (i : Nat) (x : α), l[i]? = some x → ∃ cs, CellsAt w b (o + i * R.size) cs ∧ R.At S w x cs
/-- a slice of them -/
def Rep.RowsAt (S : Nat → Prop) (w : World) (l : List α) (v : Value) : Prop :=
  ∃ A cap, v = .slice A l.length cap ∧ (l.length ≤ LIM ∧ l.length ≤ cap ∧ cap ≤ maxLen) ∧ (0 < l.length → ∃ b o, A = some ⟨b, o, none⟩ ∧ S b ∧ R.RowAt S w l b o)
/-- cells that stand for them, one behind the other -/
def Rep.Flat (S : Nat → Prop) (w : World) : List α → List Value → Prop
  | [], xs => xs = []
  | v :: r, xs => ∃ cs ys, xs = cs ++ ys ∧ R.At S w v cs ∧ Rep.Flat S w r ys
variable {R}

theorem Rep.RowAt.alike {S : Nat → Prop} {w w' : World} {l : List α} {b o : Nat} (h : R.RowAt S w l b o) (hb : S b) (k : Alike S w w') : R.RowAt S w' l b o := fun i x hx => by
  obtain ⟨cs, h1, h2⟩ := h i x hx
  exact ⟨cs, h1.alike hb k, R.alike h2 k⟩
theorem Rep.RowAt.mono {S S' : Nat → Prop} {w : World} {l : List α} {b o : Nat} (h : R.RowAt S w l b o) (k : ∀ b, S b → S' b) : R.RowAt S' w l b o := fun i x hx => by
  obtain ⟨cs, h1, h2⟩ := h i x hx
  exact ⟨cs, h1, R.mono h2 k⟩
theorem Rep.RowsAt.alike {S : Nat → Prop} {w w' : World} {l : List α} {v : Value} (h : R.RowsAt S w l v) (k : Alike S w w') : R.RowsAt S w' l v := by
  obtain ⟨A, cap, h1, h2, h3⟩ := h
  exact ⟨A, cap, h1, h2, fun hn => let ⟨b, o, e, hs, hr⟩ := h3 hn; ⟨b, o, e, hs, hr.alike hs k⟩⟩
theorem Rep.RowsAt.mono {S S' : Nat → Prop} {w : World} {l : List α} {v : Value} (h : R.RowsAt S w l v) (k : ∀ b, S b → S' b) : R.RowsAt S' w l v := by
  obtain ⟨A, cap, h1, h2, h3⟩ := h
  exact ⟨A, cap, h1, h2, fun hn => let ⟨b, o, e, hs, hr⟩ := h3 hn; ⟨b, o, e, k b hs, hr.mono k⟩⟩
theorem Rep.RowsAt.nil (S : Nat → Prop) (w : World) : R.RowsAt S w [] (.slice none 0 0) := ⟨none, 0, rfl, ⟨by simp, by simp, by simp⟩, by simp⟩
theorem Rep.RowsAt.one {S : Nat → Prop} {w : World} {l : List α} {v : Value} (h : R.RowsAt S w l v) : v.oneCell' = true := by
  obtain ⟨A, cap, rfl, _⟩ := h; rfl
/-- a part from the front -/
theorem Rep.RowAt.take {S : Nat → Prop} {w : World} {l : List α} {b o : Nat} (h : R.RowAt S w l b o) (n : Nat) : R.RowAt S w (l.take n) b o := fun i x hx => by
  rw [List.getElem?_take] at hx
  split at hx
  · exact h i x hx
  · cases hx
theorem Rep.RowAt.drop {S : Nat → Prop} {w : World} {l : List α} {b o : Nat} (h : R.RowAt S w l b o) (n : Nat) : R.RowAt S w (l.drop n) b (o + n * R.size) := fun i x hx => by
  rw [List.getElem?_drop] at hx
  obtain ⟨cs, h1, h2⟩ := h _ x hx
  refine ⟨cs, ?_, h2⟩
  rw [show o + n * R.size + i * R.size = o + (n + i) * R.size by rw [Nat.add_mul]; omega]
  exact h1

theorem Rep.Flat.append {S : Nat → Prop} {w : World} : ∀ {l m : List α} {xs ys : List Value}, R.Flat S w l xs → R.Flat S w m ys → R.Flat S w (l ++ m) (xs ++ ys)
  | [], _, xs, ys, h, k => by simp only [Rep.Flat] at h; subst h; exact k
  | v :: r, m, xs, ys, ⟨c, zs, e, hv, hr⟩, k => ⟨c, zs ++ ys, by rw [e, List.append_assoc], hv, Rep.Flat.append hr k⟩
theorem Rep.Flat.single {S : Nat → Prop} {w : World} {x : α} {cs : List Value} (h : R.At S w x cs) : R.Flat S w [x] cs := ⟨cs, [], by simp, h, rfl⟩
theorem Rep.Flat.snoc {S : Nat → Prop} {w : World} {x : α} {cs : List Value} (hx : R.At S w x cs) {l : List α} {xs : List Value} (h : R.Flat S w l xs) : R.Flat S w (l ++ [x]) (xs ++ cs) := h.append (.single hx)
theorem Rep.Flat.alike {S : Nat → Prop} {w w' : World} (k : Alike S w w') : ∀ {l : List α} {xs : List Value}, R.Flat S w l xs → R.Flat S w' l xs
  | [], _, h => h
  | _ :: _, _, ⟨c, ys, e, hv, hr⟩ => ⟨c, ys, e, R.alike hv k, Rep.Flat.alike k hr⟩
theorem Rep.Flat.mono {S S' : Nat → Prop} {w : World} (k : ∀ b, S b → S' b) : ∀ {l : List α} {xs : List Value}, R.Flat S w l xs → R.Flat S' w l xs
  | [], _, h => h
  | _ :: _, _, ⟨c, ys, e, hv, hr⟩ => ⟨c, ys, e, R.mono hv k, Rep.Flat.mono k hr⟩
theorem Rep.Flat.length {S : Nat → Prop} {w : World} : ∀ {l : List α} {xs : List Value}, R.Flat S w l xs → xs.length = l.length * R.size
  | [], _, h => by simp only [Rep.Flat] at h; subst h; simp
  | _ :: r, _, ⟨c, ys, e, hv, hr⟩ => by
    subst e
    have := R.len hv
    have := Rep.Flat.length hr
    simp [Nat.succ_mul]; omega
theorem Rep.Flat.one {S : Nat → Prop} {w : World} : ∀ {l : List α} {xs : List Value}, R.Flat S w l xs → ∀ u ∈ xs, u.oneCell' = true
  | [], _, h => by simp only [Rep.Flat] at h; subst h; simp
  | _ :: r, _, ⟨c, ys, e, hv, hr⟩ => by
    subst e
    intro u hu
    rcases List.mem_append.1 hu with hu | hu
    · exact R.one hv u hu
    · exact Rep.Flat.one hr u hu
theorem Rep.Flat.get {S : Nat → Prop} {w : World} : ∀ {l : List α} {xs : List Value} {i : Nat} {x : α}, R.Flat S w l xs → l[i]? = some x → ∃ cs, R.At S w x cs ∧ ∀ j v, cs[j]? = some v → xs[i * R.size + j]? = some v
  | [], _, _, _, _, h => by simp at h
  | v :: r, _, 0, x, ⟨c, ys, e, hv, hr⟩, h => by
    simp at h; subst h; subst e
    refine ⟨c, hv, fun j u hj => ?_⟩
    rw [List.getElem?_append_left (by simpa using (List.getElem?_eq_some_iff.1 hj).1)]
    simpa using hj
  | v :: r, _, i + 1, x, ⟨c, ys, e, hv, hr⟩, h => by
    subst e
    obtain ⟨cs, h2, h3⟩ := Rep.Flat.get hr (i := i) (x := x) (by simpa using h)
    refine ⟨cs, h2, fun j u hj => ?_⟩
    have := R.len hv
    rw [Nat.succ_mul, List.getElem?_append_right (by omega), show i * R.size + R.size + j - c.length = i * R.size + j from by omega]
    exact h3 j u hj
/-- a row that is read is such cells -/
theorem Rep.RowAt.flat {S : Nat → Prop} {w : World} : ∀ {l : List α} {b o : Nat}, R.RowAt S w l b o → ∃ xs, R.Flat S w l xs ∧ CellsAt w b o xs
  | [], _, _, _ => ⟨[], rfl, fun j v hj => by simp at hj⟩
  | x :: r, b, o, h => by
    obtain ⟨cs, h1, h2⟩ := h 0 x rfl
    obtain ⟨xs, h3, h4⟩ := Rep.RowAt.flat (l := r) (b := b) (o := o + R.size) fun i y hy => by
      obtain ⟨cs, h1, h2⟩ := h (i + 1) y (by simpa using hy)
      exact ⟨cs, by rw [show o + R.size + i * R.size = o + (i + 1) * R.size by rw [Nat.succ_mul]; omega]; exact h1, h2⟩
    refine ⟨cs ++ xs, ⟨cs, xs, rfl, h2, h3⟩, fun j v hj => ?_⟩
    have hl := R.len h2
    by_cases hc : j < cs.length
    · rw [List.getElem?_append_left hc] at hj
      have := h1 j v hj
      simpa using this
    · rw [List.getElem?_append_right (by omega)] at hj
      have := h4 _ v hj
      rw [show o + R.size + (j - cs.length) = o + j by omega] at this
      exact this
/-- such cells are a row -/
theorem Rep.Flat.row {S : Nat → Prop} {w : World} {l : List α} {xs : List Value} {b o : Nat} (h : R.Flat S w l xs) (hc : CellsAt w b o xs) : R.RowAt S w l b o := fun i x hx => by
  obtain ⟨cs, h1, h2⟩ := h.get hx
  exact ⟨cs, fun j v hj => by rw [Nat.add_assoc]; exact hc _ v (h2 j v hj), h1⟩

/-- the cells of an owned row -/
theorem own_cells {w : World} {base : Nat} {e : TypeId} {size n : Nat} {v : Value} {xs : List Value} (h : w.ownsRow base e size v n xs) (hn : 0 < n) : ∃ g cap, v = .slice (some ⟨g, 0, none⟩) n cap ∧ base ≤ g ∧ n ≤ cap ∧ cap ≤ maxLen ∧ CellsAt w g 0 xs := by
  obtain ⟨hx, hv⟩ := h
  rcases hv with ⟨rfl, hn0⟩ | ⟨g, cap, cur, rfl, hg, hh, hnc, hcm, hcur, htake⟩
  · omega
  · refine ⟨g, cap, rfl, hg, hnc, hcm, fun j u hj => ?_⟩
    rw [cell_of_row _ _ _ _ _ _ hh]
    rw [← htake, List.getElem?_take] at hj
    split at hj
    · simpa using hj
    · cases hj

/-- an owned row is a slice of them -/
theorem own_rows {S S' : Nat → Prop} {w : World} {base : Nat} {e : TypeId} {v : Value} {l : List α} {xs : List Value} (h : w.ownsRow base e R.size v l.length xs) (hf : R.Flat S w l xs) (hl : l.length ≤ LIM)
    (h1 : ∀ b, S b → S' b) (h2 : ∀ b, v.ownBlock = some b → S' b) : R.RowsAt S' w l v := by
  by_cases hn : 0 < l.length
  · obtain ⟨g, cap, rfl, hg, hnc, hcm, hc⟩ := own_cells h hn
    exact ⟨_, cap, rfl, ⟨hl, hnc, hcm⟩, fun _ => ⟨g, 0, rfl, h2 g rfl, (hf.row hc).mono h1⟩⟩
  · obtain ⟨hx, hv⟩ := h
    rcases hv with ⟨rfl, hn0⟩ | ⟨g, cap, cur, rfl, hg, hh, hnc, hcm, hcur, htake⟩
    · exact ⟨none, 0, by rw [hn0], ⟨hl, by omega, by simp⟩, by omega⟩
    · exact ⟨_, cap, rfl, ⟨hl, hnc, hcm⟩, by omega⟩

/-- one more behind a row of the call's own -/
theorem Rep.flat_step {base : Nat} {wr w1 W2 w2 : World} {e : TypeId} {u v' : Value} {n c0 : Nat} {ys : List α} {xs cs : List Value} {y : α} (hown : wr.ownsRow base e R.size u n xs) (hf : R.Flat (Made base wr u) wr ys xs)
    (h1 : Ext wr w1) (h2 : Ext w1 W2) (hc0 : wr.heap.size ≤ c0) (hb : base ≤ wr.heap.size) (hy : R.At (Fresh c0 w1) w1 y cs) (hg : GrownBy W2 w2 u.ownBlock) (hv : v'.ownBlock = u.ownBlock ∨ v'.ownBlock = some W2.heap.size) :
    R.Flat (Made base w2 v') w2 (ys ++ [y]) (xs ++ cs) := by
  have hlt := hown.lt
  have s1 := h1.size
  have s2 := h2.size
  have s3 := hg.size
  refine Rep.Flat.snoc ?_ ?_
  · refine R.mono (R.alike hy (w' := w2) fun b hbf => ?_) fun b hbf => ?_
    · obtain ⟨hb1, hb2⟩ := hbf
      rw [hg.block b (by omega) (fun e => by have := hlt b e.symm; omega), h2.block b hb2]
    · obtain ⟨hb1, hb2⟩ := hbf
      refine ⟨by omega, by omega, fun e => ?_⟩
      rcases hv with hv | hv
      · have := hlt b (hv ▸ e); omega
      · rw [hv] at e; injection e with e; omega
  · refine (Rep.Flat.alike (w' := w2) (fun b hbf => ?_) hf).mono fun b hbf => ?_
    · obtain ⟨hb1, hb2, hb3⟩ := hbf
      rw [hg.block b (by omega) (fun e => hb3 e.symm), h2.block b (by omega), h1.block b hb2]
    · obtain ⟨hb1, hb2, hb3⟩ := hbf
      refine ⟨hb1, by omega, fun e => ?_⟩
      rcases hv with hv | hv
      · exact hb3 (hv ▸ e)
      · rw [hv] at e; injection e with e; omega
end

/-! ### the kinds -/
theorem Alike.mono {S S' : Nat → Prop} {w w' : World} (h : Alike S w w') (k : ∀ b, S' b → S b) : Alike S' w w' := fun b hb => h b (k b hb)

/-- values -/
def valR : Rep Val where
  size := 8
  pos := by omega
  At S w x cs := Val.At S w x cs
  len h := h.length
  one h := h.one
  alike h k := h.alike k
  mono h k := h.mono k
/-- texts -/
def strR : Rep ByteArray where
  size := 1
  pos := by omega
  At _ _ x cs := cs = [.string x] ∧ x.size ≤ maxLen
  len h := by rw [h.1]; rfl
  one h := by rw [h.1]; simp [Value.oneCell']
  alike h _ := h
  mono h _ := h
/-- numbers -/
def natR : Rep Nat where
  size := 1
  pos := by omega
  At _ _ x cs := cs = [.int .i64 x]
  len h := by rw [h]; rfl
  one h := by rw [h]; simp [Value.oneCell']
  alike h _ := h
  mono h _ := h

theorem valsAt_iff {S : Nat → Prop} {w : World} {l : List Val} {v : Value} : ValsAt S w l v ↔ valR.RowsAt S w l v := by
  constructor
  · rintro ⟨A, cap, h1, h2, h3⟩
    refine ⟨A, cap, h1, h2, fun hn => ?_⟩
    obtain ⟨b, o, e, hs, hr⟩ := h3 hn
    refine ⟨b, o, e, hs, fun i x hx => ?_⟩
    obtain ⟨cs, _, c2, c3⟩ := hr.get hx
    exact ⟨cs, c2, c3⟩
  · rintro ⟨A, cap, h1, h2, h3⟩
    refine ⟨A, cap, h1, h2, fun hn => ?_⟩
    obtain ⟨b, o, e, hs, hr⟩ := h3 hn
    refine ⟨b, o, e, hs, Val.RowAt.mk fun i x hx => ?_⟩
    obtain ⟨cs, c2, c3⟩ := hr i x hx
    exact ⟨cs, c3.length, c2, c3⟩
theorem strs_row {S : Nat → Prop} {w : World} {b o : Nat} : ∀ {l : List ByteArray}, strR.RowAt S w l b o ↔ CellsAt w b o (l.map Value.string) ∧ ∀ s ∈ l, s.size ≤ maxLen := by
  intro l
  constructor
  · intro h
    refine ⟨fun j v hj => ?_, fun s hs => ?_⟩
    · rw [List.getElem?_map] at hj
      obtain ⟨s, hs, rfl⟩ := Option.map_eq_some_iff.1 hj
      obtain ⟨cs, h1, rfl, _⟩ := h j s hs
      have := h1 0 _ rfl
      simpa [strR] using this
    · obtain ⟨i, hi⟩ := List.mem_iff_getElem?.1 hs
      obtain ⟨cs, _, _, h2⟩ := h i s hi
      exact h2
  · rintro ⟨h1, h2⟩ i s hs
    refine ⟨[.string s], fun j v hj => ?_, rfl, h2 s (List.mem_of_getElem? hs)⟩
    cases j with
    | zero =>
      simp at hj; subst hj
      have := h1 i (.string s) (by simp [hs])
      simpa [strR] using this
    | succ j => simp at hj
theorem strsAt_rows {S : Nat → Prop} {w : World} {l : List ByteArray} {v : Value} (h : StrsAt S w l v) : strR.RowsAt S w l v := by
  obtain ⟨A, cap, h1, h0, h2, h3, h4, h5⟩ := h
  exact ⟨A, cap, h1, ⟨h0, h2, h3⟩, fun hn => let ⟨b, o, e, hs, hc⟩ := h5 hn; ⟨b, o, e, hs, strs_row.2 ⟨hc, h4⟩⟩⟩
theorem rows_strsAt {S : Nat → Prop} {w : World} {l : List ByteArray} {v : Value} (h : strR.RowsAt S w l v) : StrsAt S w l v := by
  obtain ⟨A, cap, h1, ⟨h0, h2, h3⟩, h4⟩ := h
  refine ⟨A, cap, h1, h0, h2, h3, fun s hs => ?_, fun hn => ?_⟩
  · have hn : 0 < l.length := List.length_pos_of_mem hs
    obtain ⟨b, o, e, hb, hr⟩ := h4 hn
    exact (strs_row.1 hr).2 s hs
  · obtain ⟨b, o, e, hb, hr⟩ := h4 hn
    exact ⟨b, o, e, hb, (strs_row.1 hr).1⟩
end Go.Proofs.Ytpkgkabcikmopaa
