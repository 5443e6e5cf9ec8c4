/-
  A law's arguments that are requests, scopes, expressions, as plain data. The conditions: what is read is of bulk at most 1048576.
-/
import Derived.Test.YtebfoimbdljbmaaGreatDoorGg
import Derived.Test.YtebfoimbdljbmaaGreatDoorGc
import Derived.Test.YtebfoimbdljbmaaGreatDoorReqQ
import Derived.Test.YtebfoimbdljbmaaGreatDoorExpQ
import Derived.Test.YtebfoimbdljbmaaGreatDoorScpQ
namespace Go.Proofs.YtebfoimbdljbmaaGreatDoor
open Go.ChangeShapes Go.WideShapes Go.ChangeAt Go.RowKit Go.Deep

section
variable {H : Type} {enc : TypeId × Value → H} {W : World}
set_option maxRecDepth 100000 in
/-- a slice of things that can be read, up to some bulk -/
theorem read_rowsB {α : Type} (R : Rep α) {t e : TypeId} (B : Nat) (hB : B ≤ 1048576) (ht : Tryz.prog.underlying t = some (.slice e)) (hsz : Tryz.prog.cellsOf e = R.size)
    (hone : ∀ (fuel : Nat) (cs : List Value) (d : DataW H) (ps : List MemPlace), DataW.trod enc Tryz.prog W 0 (fun _ => true) true fuel e cs = some (d, ps) → Rows.uptoBulk d ≤ B → ∃ x, R.At (fun b => b < W.heap.size) W x cs)
    {fuel : Nat} {cs : List Value} {d : DataW H} {ps : List MemPlace} (h : DataW.trod enc Tryz.prog W 0 (fun _ => true) true fuel t cs = some (d, ps)) (hb : Rows.uptoBulk d ≤ B) :
    ∃ l v, cs = [v] ∧ R.RowsAt (fun b => b < W.heap.size) W l v := by
  rcases open_slice ht h with ⟨rfl, hx⟩ | ⟨a, len, cap, m, n, D, Pl, rfl, _, hl, hm, hme, hx, hel⟩
  · exact ⟨[], _, rfl, none, 0, rfl, ⟨by simp, by simp, by simp⟩, by simp⟩
  · injection hx with hd _
    have hme : m = cap := by simpa using hme
    have hlen : len ≤ 1048576 := by
      rw [hd] at hb
      simp only [Rows.uptoBulk] at hb
      have := bulk_length ((List.range len).map D)
      simp at this; omega
    rcases Nat.eq_zero_or_pos len with h0 | hpos
    · subst h0
      exact ⟨[], _, rfl, some a, cap, rfl, ⟨by simp, by simp, hm⟩, by simp⟩
    obtain ⟨b, off, rfl, hbl⟩ : ∃ b off, a = ⟨b, off, none⟩ ∧ b < W.heap.size := by
      obtain ⟨cs', q1, _⟩ := hel 0 (by omega)
      rw [hsz] at q1
      exact cells_first R.pos q1
    have hel' : ∀ j, j < len → ∃ x : α, ∃ cs', CellsAt W b (off + j * R.size) cs' ∧ R.At (fun b => b < W.heap.size) W x cs' := fun j hj => by
      obtain ⟨cs', q1, q2⟩ := hel j (by omega)
      rw [hsz] at q1
      obtain ⟨hcl, hc⟩ := cells_place q1
      have hbj : Rows.uptoBulk (D j) ≤ B := by
        have := bulk_part (List.mem_map_of_mem (f := D) (List.mem_range.2 hj))
        rw [hd] at hb
        simp only [Rows.uptoBulk] at hb
        omega
      obtain ⟨x, hx⟩ := hone n cs' (D j) (Pl j) q2 hbj
      exact ⟨x, cs', hc, hx⟩
    obtain ⟨l, hll, hp⟩ := list_of len hel'
    exact ⟨l, _, rfl, some ⟨b, off, none⟩, cap, by rw [hll], ⟨by rw [hll]; unfold LIM; omega, by omega, hm⟩, fun _ => ⟨b, off, rfl, hbl, fun j x hx => hp j x hx⟩⟩
end

theorem Tryz.cellsEx : Tryz.prog.cellsOf 30 = 12 := by kernel_rfl
theorem Tryz.cellsXs : Tryz.prog.cellsOf 28 = 1 := by kernel_rfl
section
variable {H : Type} {enc : TypeId × Value → H} {W : World}
set_option maxRecDepth 100000 in
/-- an expression -/
theorem read_exp : ∀ (B fuel : Nat) (cs : List Value) (d : DataW H) (ps : List MemPlace), DataW.trod enc Tryz.prog W 0 (fun _ => true) true fuel 30 cs = some (d, ps) → Rows.uptoBulk d ≤ B → B ≤ 1048576 → ∃ t, Exp.At (fun b => b < W.heap.size) W t cs
  | 0, fuel, cs, d, ps, _, hb, _ => by have := bulk_pos d; omega
  | B + 1, fuel, cs, d, ps, h, hb, hB => by
    obtain ⟨xs, n, _, hx, hl, hlen, hf⟩ := DataW.trod_struct Tryz.underlying30 h
    rw [Tryz.cellsEx] at hl
    injection hx with hd _
    match cs, hl with
    | [c0, c1, c2, c3, c4, c5, c6, c7, c8, c9, c10, c11], _ =>
    match xs, hlen with
    | [x0, x1, x2, x3, x4], _ =>
    have h0 : DataW.trod enc Tryz.prog W 0 (fun _ => true) true n 3 (([c0, c1, c2, c3, c4, c5, c6, c7, c8, c9, c10, c11].drop 0).take (Tryz.prog.cellsOf 3)) = some x0 := hf 0 _ rfl
    have h1 : DataW.trod enc Tryz.prog W 0 (fun _ => true) true n 27 (([c0, c1, c2, c3, c4, c5, c6, c7, c8, c9, c10, c11].drop 1).take (Tryz.prog.cellsOf 27)) = some x1 := hf 1 _ rfl
    have h2 : DataW.trod enc Tryz.prog W 0 (fun _ => true) true n 9 (([c0, c1, c2, c3, c4, c5, c6, c7, c8, c9, c10, c11].drop 9).take (Tryz.prog.cellsOf 9)) = some x2 := hf 2 _ rfl
    have h3 : DataW.trod enc Tryz.prog W 0 (fun _ => true) true n 28 (([c0, c1, c2, c3, c4, c5, c6, c7, c8, c9, c10, c11].drop 10).take (Tryz.prog.cellsOf 28)) = some x3 := hf 3 _ rfl
    have h4 : DataW.trod enc Tryz.prog W 0 (fun _ => true) true n 25 (([c0, c1, c2, c3, c4, c5, c6, c7, c8, c9, c10, c11].drop 11).take (Tryz.prog.cellsOf 25)) = some x4 := hf 4 _ rfl
    rw [Tryz.cells3] at h0
    rw [Tryz.cells27] at h1
    rw [Tryz.cells9] at h2
    rw [Tryz.cellsXs] at h3
    rw [Tryz.cells25] at h4
    have hsub : ∀ x ∈ [x0, x1, x2, x3, x4], Rows.uptoBulk x.1 + 1 ≤ Rows.uptoBulk d := fun x hx => by
      rw [hd]
      have := bulk_part (show x.1 ∈ [x0, x1, x2, x3, x4].map (fun x => x.1) from List.mem_map.2 ⟨x, hx, rfl⟩)
      simp only [Rows.uptoBulk]; omega
    have hb0 := hsub x0 (by simp)
    have hb1 := hsub x1 (by simp)
    have hb2 := hsub x2 (by simp)
    have hb3 := hsub x3 (by simp)
    have hb4 := hsub x4 (by simp)
    have hrec : ∀ (fuel : Nat) (cs : List Value) (d : DataW H) (ps : List MemPlace), DataW.trod enc Tryz.prog W 0 (fun _ => true) true fuel 30 cs = some (d, ps) → Rows.uptoBulk d ≤ B → ∃ t, Exp.At (fun b => b < W.heap.size) W t cs := fun fuel cs d ps h hb => read_exp B fuel cs d ps h hb (by omega)
    obtain ⟨k, e0, _, w0⟩ := DataW.trod_int Tryz.underlying3 h0
    obtain ⟨v, hv⟩ := read_val 1048576 n _ x1.1 x1.2 h1 (by omega) (Nat.le_refl _)
    obtain ⟨s, e2, _, w2⟩ := DataW.trod_string Tryz.underlying9 h2
    obtain ⟨l, v3, e3, r3⟩ := read_rowsB expR B (by omega) Tryz.underlying28 Tryz.cellsEx hrec (d := x3.1) (ps := x3.2) h3 (by omega)
    obtain ⟨m, v4, e4, r4⟩ := read_strs (d := x4.1) (ps := x4.2) h4 (by omega)
    simp at e0 e2 e3 e4 hv
    subst e0 e2 e3 e4
    have hI0 : I64 k := by simpa [I64, Lit.wf, IntKind.min, IntKind.max, IntKind.signed, IntKind.bits] using w0
    exact ⟨.mk k v s l m, Exp.At.of (vc := [c1, c2, c3, c4, c5, c6, c7, c8]) hI0 w2 hv r3 r4⟩
end

section
variable {H : Type} {enc : TypeId × Value → H} {W : World}
end
set_option maxRecDepth 100000 in
theorem read_exp_arg {H : Type} {enc : TypeId × Value → H} {W : World} {base : Nat} {v : Value} {d : DataW H} {p : List MemPlace} (hv : Value.okWide Tryz.prog W .any base 30 v) (h : DataW.Trod enc Tryz.prog W 0 (fun _ => true) true 30 v d p) (hb : Rows.uptoBulk d ≤ 1048576) :
    ∃ x cs, v = .agg (List.toArray cs) ∧ Exp.At (fun b => b < W.heap.size) W x cs := by
  obtain ⟨cs, rfl, hsz⟩ := okWide_struct Tryz.underlying30 hv
  obtain ⟨fuel, hf⟩ := h
  obtain ⟨x, hx⟩ := (read_exp 1048576 fuel _ d p hf hb (Nat.le_refl _) : ∃ t, Exp.At (fun b => b < W.heap.size) W t cs.toList)
  exact ⟨x, cs.toList, by simp, hx⟩
end Go.Proofs.YtebfoimbdljbmaaGreatDoor
