/-
  What a law's arguments read as, as plain data in memory, and how much it is. The conditions: what is read is of bulk at most 1048576.
-/
import Derived.Test.YtpkgkabcikmopaaRead2
import Derived.Test.YtpkgkabcikmopaaEnc
namespace Go.Proofs.Ytpkgkabcikmopaa
open Go.ChangeShapes Go.WideShapes Go.ChangeAt Go.RowKit Go.Deep

theorem sums_le {α : Type} {f : α → Nat} {D : Nat → Nat} : ∀ {l : List α}, (∀ i x, l[i]? = some x → f x ≤ D i) → (l.map f).sum ≤ ((List.range l.length).map D).sum := by
  intro l
  have : ∀ n, n ≤ l.length → (∀ i x, l[i]? = some x → f x ≤ D i) → ((l.take n).map f).sum ≤ ((List.range n).map D).sum := by
    intro n
    induction n with
    | zero => intro _ _; simp
    | succ n ih =>
      intro hn h
      have hx : l[n]? = some l[n] := List.getElem?_eq_getElem (by omega)
      rw [take_succ_of hx, List.range_succ, List.map_append, List.map_append, List.sum_append, List.sum_append]
      have := ih (by omega) h
      have := h n _ hx
      simp only [List.map_cons, List.map_nil, List.sum_cons, List.sum_nil]; omega
  intro h
  have := this l.length (Nat.le_refl _) h
  rwa [List.take_length] at this
theorem bulk_range {H : Type} (D : Nat → DataW H) (n : Nat) : ((List.range n).map fun i => Rows.uptoBulk (D i)).sum ≤ Rows.uptoBulkAll ((List.range n).map D) := by
  have : ∀ l : List Nat, (l.map fun i => Rows.uptoBulk (D i)).sum ≤ Rows.uptoBulkAll (l.map D) := by
    intro l
    induction l with
    | nil => simp [Rows.uptoBulkAll]
    | cons i r ih => simp only [List.map_cons, List.sum_cons, Rows.uptoBulkAll]; omega
  exact this _

section
variable {H : Type} {enc : TypeId × Value → H} {W : World}
set_option maxRecDepth 100000 in
/-- a slice of strings -/
theorem read_strs_m {fuel : Nat} {cs : List Value} {d : DataW H} {ps : List MemPlace} (h : DataW.trod enc Try.prog W 0 (fun _ => true) true fuel 25 cs = some (d, ps)) (hb : Rows.uptoBulk d ≤ 1048576) :
    ∃ l nv, cs = [nv] ∧ StrsAt (fun b => b < W.heap.size) W l nv ∧ nameSum l + 1 ≤ Rows.uptoBulk d := by
  have hpos1 := bulk_pos d
  rcases open_slice Try.underlying25 h with ⟨rfl, hx⟩ | ⟨a, len, cap, m, n, D, Pl, rfl, _, hl, hm, hme, hx, hel⟩
  · exact ⟨[], _, rfl, ⟨none, 0, rfl, by simp, by simp, by simp, by simp, by simp⟩, by simpa [nameSum] using hpos1⟩
  · injection hx with hd _
    have hme : m = cap := by simpa using hme
    have hlen : len ≤ 1048576 := by
      rw [hd] at hb
      simp only [Rows.uptoBulk] at hb
      have := bulk_length ((List.range len).map D)
      simp at this; omega
    rcases Nat.eq_zero_or_pos len with h0 | hpos
    · subst h0
      exact ⟨[], _, rfl, ⟨some a, cap, rfl, by simp, by simp, hm, by simp, by simp⟩, by simpa [nameSum] using hpos1⟩
    obtain ⟨b, off, rfl, hbl⟩ : ∃ b off, a = ⟨b, off, none⟩ ∧ b < W.heap.size := by
      obtain ⟨cs', h1, _⟩ := hel 0 (by omega)
      rw [Try.cells9] at h1
      exact cells_first (by omega) h1
    have hall : ∀ i, i < len → ∃ s : ByteArray, s.size ≤ maxLen ∧ CellsAt W b (off + i) [.string s] ∧ Rows.uptoBulk (D i) = s.size + 1 := fun i hi => by
      obtain ⟨cs', h1, h2⟩ := hel i (by omega)
      rw [Try.cells9] at h1
      obtain ⟨_, hc⟩ := cells_place h1
      obtain ⟨s, rfl, hd2, hs⟩ := DataW.trod_string Try.underlying9 h2
      injection hd2 with hd2 _
      exact ⟨s, hs, by simpa using hc, by rw [hd2]; simp only [Rows.uptoBulk, Array.length_toList]; rfl⟩
    obtain ⟨l, hll, hp⟩ := list_of len hall
    refine ⟨l, _, rfl, ⟨some ⟨b, off, none⟩, cap, by rw [hll], by rw [hll]; unfold LIM; omega, by omega, hm, fun s hs => ?_, fun _ => ⟨b, off, rfl, hbl, fun j v hj => ?_⟩⟩, ?_⟩
    · obtain ⟨i, hi, rfl⟩ := List.getElem_of_mem hs
      exact (hp i _ (List.getElem?_eq_getElem hi)).1
    · rw [List.getElem?_map] at hj
      obtain ⟨s, hs, rfl⟩ := Option.map_eq_some_iff.1 hj
      simpa using (hp j s hs).2.1 0 _ rfl
    · rw [hd]
      simp only [Rows.uptoBulk]
      have := sums_le (f := fun s : ByteArray => s.size + 1) (l := l) (D := fun i => Rows.uptoBulk (D i)) fun i s hs => by rw [(hp i s hs).2.2]; exact Nat.le_refl _
      rw [hll] at this
      have h2 := bulk_range D len
      unfold nameSum
      omega

set_option maxRecDepth 100000 in
/-- a value -/
theorem read_val_m : ∀ (B fuel : Nat) (cs : List Value) (d : DataW H) (ps : List MemPlace), DataW.trod enc Try.prog W 0 (fun _ => true) true fuel 27 cs = some (d, ps) → Rows.uptoBulk d ≤ B → B ≤ 1048576 →
    ∃ v, Val.At (fun b => b < W.heap.size) W v cs ∧ v.mass ≤ Rows.uptoBulk d
  | 0, fuel, cs, d, ps, _, hb, _ => by have := bulk_pos d; omega
  | B + 1, fuel, cs, d, ps, h, hb, hB => by
    obtain ⟨xs, n, _, hx, hl, hlen, hf⟩ := DataW.trod_struct Try.underlying27 h
    rw [Try.cells27] at hl
    injection hx with hd _
    match cs, hl with
    | [c0, c1, c2, c3, c4, c5, c6, c7], _ =>
    match xs, hlen with
    | [x0, x1, x2, x3, x4, x5, x6], _ =>
    have h0 : DataW.trod enc Try.prog W 0 (fun _ => true) true n 3 (([c0, c1, c2, c3, c4, c5, c6, c7].drop 0).take (Try.prog.cellsOf 3)) = some x0 := hf 0 _ rfl
    have h1 : DataW.trod enc Try.prog W 0 (fun _ => true) true n 4 (([c0, c1, c2, c3, c4, c5, c6, c7].drop 1).take (Try.prog.cellsOf 4)) = some x1 := hf 1 _ rfl
    have h2 : DataW.trod enc Try.prog W 0 (fun _ => true) true n 2 (([c0, c1, c2, c3, c4, c5, c6, c7].drop 2).take (Try.prog.cellsOf 2)) = some x2 := hf 2 _ rfl
    have h3 : DataW.trod enc Try.prog W 0 (fun _ => true) true n 9 (([c0, c1, c2, c3, c4, c5, c6, c7].drop 3).take (Try.prog.cellsOf 9)) = some x3 := hf 3 _ rfl
    have h4 : DataW.trod enc Try.prog W 0 (fun _ => true) true n 23 (([c0, c1, c2, c3, c4, c5, c6, c7].drop 4).take (Try.prog.cellsOf 23)) = some x4 := hf 4 _ rfl
    have h5 : DataW.trod enc Try.prog W 0 (fun _ => true) true n 24 (([c0, c1, c2, c3, c4, c5, c6, c7].drop 6).take (Try.prog.cellsOf 24)) = some x5 := hf 5 _ rfl
    have h6 : DataW.trod enc Try.prog W 0 (fun _ => true) true n 25 (([c0, c1, c2, c3, c4, c5, c6, c7].drop 7).take (Try.prog.cellsOf 25)) = some x6 := hf 6 _ rfl
    rw [Try.cells3] at h0
    rw [Try.cells4] at h1
    rw [Try.cells2] at h2
    rw [Try.cells9] at h3
    rw [Try.cells23] at h4
    rw [Try.cells24] at h5
    rw [Try.cells25] at h6
    obtain ⟨k, e0, _, w0⟩ := DataW.trod_int Try.underlying3 h0
    obtain ⟨bo, e1, _⟩ := DataW.trod_bool Try.underlying4 h1
    obtain ⟨i, e2, _, w2⟩ := DataW.trod_int Try.underlying2 h2
    obtain ⟨t, e3, m3, w3⟩ := DataW.trod_string Try.underlying9 h3
    obtain ⟨ys, m, _, hx4, _, hlen4, hf4⟩ := DataW.trod_struct Try.underlying23 h4
    match ys, hlen4 with
    | [y0, y1], _ =>
    have g0 : DataW.trod enc Try.prog W 0 (fun _ => true) true m 9 (([c4, c5].drop 0).take (Try.prog.cellsOf 9)) = some y0 := hf4 0 _ rfl
    have g1 : DataW.trod enc Try.prog W 0 (fun _ => true) true m 9 (([c4, c5].drop 1).take (Try.prog.cellsOf 9)) = some y1 := hf4 1 _ rfl
    rw [Try.cells9] at g0 g1
    obtain ⟨ut, e4, m4, w4⟩ := DataW.trod_string Try.underlying9 g0
    obtain ⟨ui, e5, m5, w5⟩ := DataW.trod_string Try.underlying9 g1
    have hsub : ∀ x ∈ [x0, x1, x2, x3, x4, x5, x6], Rows.uptoBulk x.1 + 1 ≤ Rows.uptoBulk d := fun x hx => by
      rw [hd]
      have := bulk_part (show x.1 ∈ [x0, x1, x2, x3, x4, x5, x6].map (fun x => x.1) from List.mem_map.2 ⟨x, hx, rfl⟩)
      simp only [Rows.uptoBulk]; omega
    have hsum : Rows.uptoBulk x3.1 + Rows.uptoBulk x4.1 + Rows.uptoBulk x5.1 + Rows.uptoBulk x6.1 + 1 ≤ Rows.uptoBulk d := by
      rw [hd]
      simp only [List.map_cons, List.map_nil, Rows.uptoBulk, Rows.uptoBulkAll]
      omega
    have hu3 : Rows.uptoBulk x3.1 = t.size + 1 := by
      rw [m3]; simp only [Rows.uptoBulk, Array.length_toList]; rfl
    have hu4 : Rows.uptoBulk x4.1 = ut.size + ui.size + 3 := by
      rw [hx4, m4, m5]
      simp only [List.map_cons, List.map_nil, Rows.uptoBulk, Rows.uptoBulkAll, Array.length_toList]
      show ut.size + 1 + (ui.size + 1 + 0) + 1 = _
      omega
    have hb5 := hsub x5 (by simp)
    have hb6 := hsub x6 (by simp)
    obtain ⟨names, nv, e7, hn, hns⟩ := read_strs_m (d := x6.1) (ps := x6.2) h6 (by omega)
    simp at e0 e1 e2 e3 e4 e5 e7
    subst e0 e1 e2 e3 e4 e5 e7
    have hI0 : I64 k := by simpa [I64, Lit.wf, IntKind.min, IntKind.max, IntKind.signed, IntKind.bits] using w0
    have hI2 : I64 i := by simpa [I64, Lit.wf, IntKind.min, IntKind.max, IntKind.signed, IntKind.bits] using w2
    rcases open_slice Try.underlying24 (x := x5) h5 with ⟨e6, hx5⟩ | ⟨a, len, cap, m', n', D, Pl, e6, _, hl', hm', hme, hx5, hel⟩
    · simp at e6; subst e6
      refine ⟨.mk k bo i t ut ui [] names, ?_, by simp only [Val.mass, Val.masses]; omega⟩
      unfold Val.At
      exact ⟨none, 0, _, rfl, ⟨hI0, hI2, w3, w4, w5⟩, ⟨by simp, by simp, by simp⟩, by simp, hn⟩
    · simp at e6; subst e6
      have hme : m' = cap := by simpa using hme
      rw [hx5] at hb5
      have hlen5 : len ≤ 1048576 := by
        simp only [Rows.uptoBulk] at hb5
        have := bulk_length ((List.range len).map D)
        simp at this; omega
      rcases Nat.eq_zero_or_pos len with h0 | hpos
      · subst h0
        refine ⟨.mk k bo i t ut ui [] names, ?_, by simp only [Val.mass, Val.masses]; omega⟩
        unfold Val.At
        exact ⟨some a, cap, _, rfl, ⟨hI0, hI2, w3, w4, w5⟩, ⟨by simp, by simp, hm'⟩, by simp, hn⟩
      obtain ⟨b, off, rfl, hbl⟩ : ∃ b off, a = ⟨b, off, none⟩ ∧ b < W.heap.size := by
        obtain ⟨cs', q1, _⟩ := hel 0 (by omega)
        rw [Try.cells27] at q1
        exact cells_first (by omega) q1
      have hel' : ∀ j, j < len → ∃ x : Val, ∃ cs', cs'.length = 8 ∧ CellsAt W b (off + j * 8) cs' ∧ Val.At (fun b => b < W.heap.size) W x cs' ∧ x.mass ≤ Rows.uptoBulk (D j) := fun j hj => by
        obtain ⟨cs', q1, q2⟩ := hel j (by omega)
        rw [Try.cells27] at q1
        obtain ⟨hcl, hc⟩ := cells_place q1
        have hbj : Rows.uptoBulk (D j) ≤ B := by
          have := bulk_part (List.mem_map_of_mem (f := D) (List.mem_range.2 hj))
          simp only [Rows.uptoBulk] at hb5
          omega
        obtain ⟨x, hx⟩ := read_val_m B n' cs' (D j) (Pl j) q2 hbj (by omega)
        exact ⟨x, cs', hcl, hc, hx⟩
      obtain ⟨l, hll, hp⟩ := list_of len hel'
      have hml := sums_le (f := Val.mass) (l := l) (D := fun i => Rows.uptoBulk (D i)) fun i x hx => by
        obtain ⟨_, _, _, _, h⟩ := hp i x hx
        exact h
      rw [hll, ← Val.masses_eq] at hml
      have hbr := bulk_range D len
      have hu5 : Val.masses l + 1 ≤ Rows.uptoBulk x5.1 := by
        rw [hx5]; simp only [Rows.uptoBulk]; omega
      refine ⟨.mk k bo i t ut ui l names, ?_, by simp only [Val.mass]; omega⟩
      unfold Val.At
      exact ⟨some ⟨b, off, none⟩, cap, _, by rw [hll], ⟨hI0, hI2, w3, w4, w5⟩, ⟨by rw [hll]; unfold LIM; omega, by omega, hm'⟩, fun _ => ⟨b, off, rfl, hbl, Val.RowAt.mk fun j x hx => (let ⟨cs', h1, h2, h3, _⟩ := hp j x hx; ⟨cs', h1, h2, h3⟩)⟩, hn⟩
end
set_option maxRecDepth 100000 in
theorem read_arg_m {H : Type} {enc : TypeId × Value → H} {W : World} {base : Nat} {v : Value} {d : DataW H} {p : List MemPlace} (hv : Value.okWide Try.prog W .any base 27 v) (h : DataW.Trod enc Try.prog W 0 (fun _ => true) true 27 v d p) (hb : Rows.uptoBulk d ≤ 1048576) :
    ∃ x cs, v = .agg (List.toArray cs) ∧ Val.At (fun b => b < W.heap.size) W x cs ∧ x.mass ≤ 1048576 := by
  obtain ⟨cs, rfl, hsz⟩ := okWide_struct Try.underlying27 hv
  obtain ⟨fuel, hf⟩ := h
  obtain ⟨B, h1, h2⟩ : ∃ B, Rows.uptoBulk d ≤ B ∧ B ≤ 1048576 := ⟨_, Nat.le_refl _, hb⟩
  obtain ⟨x, hx, hm⟩ := read_val_m B fuel _ d p hf h1 h2
  exact ⟨x, cs.toList, by simp, hx, by omega⟩
end Go.Proofs.Ytpkgkabcikmopaa
