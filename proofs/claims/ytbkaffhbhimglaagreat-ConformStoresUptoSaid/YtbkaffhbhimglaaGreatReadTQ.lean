/-
  A law's arguments that are types, schemas, requests, as plain data. The conditions: what is read is of bulk at most 1048576.
-/
import Derived.Test.YtbkaffhbhimglaaGreatGg
import Derived.Test.YtbkaffhbhimglaaGreatGh
import Derived.Test.YtbkaffhbhimglaaGreatReqPQ
namespace Go.Proofs.YtbkaffhbhimglaaGreat
open Go.ChangeShapes Go.WideShapes Go.ChangeAt Go.RowKit Go.Deep
set_option maxRecDepth 100000
theorem Tryz.cellsTy : Tryz.prog.cellsOf 53 = 4 := by kernel_rfl
theorem Tryz.cellsAt : Tryz.prog.cellsOf 85 = 6 := by kernel_rfl
theorem Tryz.cellsTs : Tryz.prog.cellsOf 51 = 1 := by kernel_rfl
theorem Tryz.cellsAs : Tryz.prog.cellsOf 37 = 1 := by kernel_rfl
theorem Tryz.cellsET : Tryz.prog.cellsOf 39 = 3 := by kernel_rfl
theorem Tryz.cellsAC : Tryz.prog.cellsOf 41 = 5 := by kernel_rfl
theorem Tryz.cellsETs : Tryz.prog.cellsOf 22 = 1 := by kernel_rfl
theorem Tryz.cellsACs : Tryz.prog.cellsOf 23 = 1 := by kernel_rfl
theorem Tryz.cellsSc : Tryz.prog.cellsOf 25 = 2 := by kernel_rfl
section
variable {H : Type} {enc : TypeId × Value → H} {W : World}
theorem read_rowsB {α : Type} (R : Rep α) {t e : TypeId} (B : Nat) (hB : B ≤ 1048576) (ht : Tryz.prog.underlying t = some (.slice e)) (hsz : Tryz.prog.cellsOf e = R.size)
  (hone : ∀ (fuel : Nat) (cs : List Value) (d : DataW H) (ps : List MemPlace), DataW.trod enc Tryz.prog W 0 (fun _ => true) true fuel e cs = some (d, ps) → Rows.uptoBulk d ≤ B → ∃ x, R.At (fun b => b < W.heap.size) W x cs)
  {fuel : Nat} {cs : List Value} {d : DataW H} {ps : List MemPlace} (h : DataW.trod enc Tryz.prog W 0 (fun _ => true) true fuel t cs = some (d, ps)) (hb : Rows.uptoBulk d ≤ B) :
  ∃ l v, cs = [v] ∧ R.RowsAt (fun b => b < W.heap.size) W l v := by
 rcases open_slice ht h with ⟨rfl, hx⟩ | ⟨a, len, cap, m, n, D, Pl, rfl, _, hl, hm, hme, hx, hel⟩
 ·exact ⟨[], _, rfl, none, 0, rfl, ⟨by simp, by simp, by simp⟩, by simp⟩
 ·injection hx with hd _
  have hme : m = cap := by simpa using hme
  have hlen : len ≤ 1048576 := by
   rw [hd] at hb
   simp only [Rows.uptoBulk] at hb
   have := zdq ((List.range len).map D)
   simp at this; omega
  rcases Nat.eq_zero_or_pos len with h0 | hpos
  ·subst h0
   exact ⟨[], _, rfl, some a, cap, rfl, ⟨by simp, by simp, hm⟩, by simp⟩
  obtain ⟨b, off, rfl, hbl⟩ : ∃ b off, a = ⟨b, off, none⟩ ∧ b < W.heap.size := by
   obtain ⟨cs', q1, _⟩ := hel 0 (by omega)
   rw [hsz] at q1
   exact zes R.pos q1
  have hel' : ∀ j, j < len → ∃ x : α, ∃ cs', CellsAt W b (off + j * R.size) cs' ∧ R.At (fun b => b < W.heap.size) W x cs' := fun j hj => by
   obtain ⟨cs', q1, q2⟩ := hel j (by omega)
   rw [hsz] at q1
   obtain ⟨hcl, hc⟩ := zel q1
   have hbj : Rows.uptoBulk (D j) ≤ B := by
    have := zb6 (List.mem_map_of_mem (f := D) (List.mem_range.2 hj))
    rw [hd] at hb
    simp only [Rows.uptoBulk] at hb
    omega
   obtain ⟨x, hx⟩ := hone n cs' (D j) (Pl j) q2 hbj
   exact ⟨x, cs', hc, hx⟩
  obtain ⟨l, hll, hp⟩ := list_of len hel'
  exact ⟨l, _, rfl, some ⟨b, off, none⟩, cap, by rw [hll], ⟨by rw [hll]; unfold LIM; omega, by omega, hm⟩, fun _ => ⟨b, off, rfl, hbl, fun j x hx => hp j x hx⟩⟩
theorem read_atr (B : Nat) (hty : ∀ (fuel : Nat) (cs : List Value) (d : DataW H) (ps : List MemPlace), DataW.trod enc Tryz.prog W 0 (fun _ => true) true fuel 53 cs = some (d, ps) → Rows.uptoBulk d ≤ B → ∃ t, Ty.At (fun b => b < W.heap.size) W t cs)
  {fuel : Nat} {cs : List Value} {d : DataW H} {ps : List MemPlace} (h : DataW.trod enc Tryz.prog W 0 (fun _ => true) true fuel 85 cs = some (d, ps)) (hb : Rows.uptoBulk d ≤ B) : ∃ a, Atr.At (fun b => b < W.heap.size) W a cs := by
 obtain ⟨xs, n, _, hx, hl, hlen, hf⟩ := DataW.trod_struct Tryz.underlying85 h
 rw [Tryz.cellsAt] at hl
 injection hx with hd _
 match cs, hl with
 | [c0, c1, c2, c3, c4, c5], _ =>
 match xs, hlen with
 | [x0, x1, x2], _ =>
 have h0 : DataW.trod enc Tryz.prog W 0 (fun _ => true) true n 9 (([c0, c1, c2, c3, c4, c5].drop 0).take (Tryz.prog.cellsOf 9)) = some x0 := hf 0 _ rfl
 have h1 : DataW.trod enc Tryz.prog W 0 (fun _ => true) true n 53 (([c0, c1, c2, c3, c4, c5].drop 1).take (Tryz.prog.cellsOf 53)) = some x1 := hf 1 _ rfl
 have h2 : DataW.trod enc Tryz.prog W 0 (fun _ => true) true n 4 (([c0, c1, c2, c3, c4, c5].drop 5).take (Tryz.prog.cellsOf 4)) = some x2 := hf 2 _ rfl
 rw [zbw] at h0
 rw [Tryz.cellsTy] at h1
 rw [Tryz.cells4] at h2
 have hsub : ∀ x ∈ [x0, x1, x2], Rows.uptoBulk x.1 + 1 ≤ Rows.uptoBulk d := fun x hx => by
  rw [hd]
  have := zb6 (show x.1 ∈ [x0, x1, x2].map (fun x => x.1) from List.mem_map.2 ⟨x, hx, rfl⟩)
  simp only [Rows.uptoBulk]; omega
 have hb0 := hsub x0 (by simp)
 have hb1 := hsub x1 (by simp)
 have hb2 := hsub x2 (by simp)
 obtain ⟨s, e0, _, w0⟩ := DataW.trod_string Tryz.underlying9 h0
 obtain ⟨t, ht⟩ := hty n _ x1.1 x1.2 h1 (by omega)
 obtain ⟨o, e2, _⟩ := DataW.trod_bool Tryz.underlying4 h2
 simp at e0 e2 ht
 subst e0 e2
 refine ⟨.mk s t o, ?_⟩
 unfold Atr.At
 exact ⟨_, rfl, w0, ht⟩
theorem read_ty : ∀ (B fuel : Nat) (cs : List Value) (d : DataW H) (ps : List MemPlace), DataW.trod enc Tryz.prog W 0 (fun _ => true) true fuel 53 cs = some (d, ps) → Rows.uptoBulk d ≤ B → B ≤ 1048576 → ∃ t, Ty.At (fun b => b < W.heap.size) W t cs
 | 0, fuel, cs, d, ps, _, hb, _ => by have := bulk_pos d; omega
 | B + 1, fuel, cs, d, ps, h, hb, hB => by
  obtain ⟨xs, n, _, hx, hl, hlen, hf⟩ := DataW.trod_struct Tryz.underlying53 h
  rw [Tryz.cellsTy] at hl
  injection hx with hd _
  match cs, hl with
  | [c0, c1, c2, c3], _ =>
  match xs, hlen with
  | [x0, x1, x2, x3], _ =>
  have h0 : DataW.trod enc Tryz.prog W 0 (fun _ => true) true n 3 (([c0, c1, c2, c3].drop 0).take (Tryz.prog.cellsOf 3)) = some x0 := hf 0 _ rfl
  have h1 : DataW.trod enc Tryz.prog W 0 (fun _ => true) true n 9 (([c0, c1, c2, c3].drop 1).take (Tryz.prog.cellsOf 9)) = some x1 := hf 1 _ rfl
  have h2 : DataW.trod enc Tryz.prog W 0 (fun _ => true) true n 51 (([c0, c1, c2, c3].drop 2).take (Tryz.prog.cellsOf 51)) = some x2 := hf 2 _ rfl
  have h3 : DataW.trod enc Tryz.prog W 0 (fun _ => true) true n 37 (([c0, c1, c2, c3].drop 3).take (Tryz.prog.cellsOf 37)) = some x3 := hf 3 _ rfl
  rw [Tryz.cells3] at h0
  rw [zbw] at h1
  rw [Tryz.cellsTs] at h2
  rw [Tryz.cellsAs] at h3
  have hsub : ∀ x ∈ [x0, x1, x2, x3], Rows.uptoBulk x.1 + 1 ≤ Rows.uptoBulk d := fun x hx => by
   rw [hd]
   have := zb6 (show x.1 ∈ [x0, x1, x2, x3].map (fun x => x.1) from List.mem_map.2 ⟨x, hx, rfl⟩)
   simp only [Rows.uptoBulk]; omega
  have hb0 := hsub x0 (by simp)
  have hb1 := hsub x1 (by simp)
  have hb2 := hsub x2 (by simp)
  have hb3 := hsub x3 (by simp)
  have hrec : ∀ (fuel : Nat) (cs : List Value) (d : DataW H) (ps : List MemPlace), DataW.trod enc Tryz.prog W 0 (fun _ => true) true fuel 53 cs = some (d, ps) → Rows.uptoBulk d ≤ B → ∃ t, Ty.At (fun b => b < W.heap.size) W t cs := fun fuel cs d ps h hb => read_ty B fuel cs d ps h hb (by omega)
  obtain ⟨k, e0, _, w0⟩ := DataW.trod_int Tryz.underlying3 h0
  obtain ⟨s, e1, _, w1⟩ := DataW.trod_string Tryz.underlying9 h1
  obtain ⟨l, v2, e2, r2⟩ := read_rowsB tyR B (by omega) Tryz.underlying51 Tryz.cellsTy hrec (d := x2.1) (ps := x2.2) h2 (by omega)
  obtain ⟨m, v3, e3, r3⟩ := read_rowsB atrR B (by omega) Tryz.underlying37 Tryz.cellsAt (fun _ _ _ _ h hb => read_atr B hrec h hb) (d := x3.1) (ps := x3.2) h3 (by omega)
  simp at e0 e1 e2 e3
  subst e0 e1 e2 e3
  have hI0 : I64 k := by simpa [I64, Lit.wf, IntKind.min, IntKind.max, IntKind.signed, IntKind.bits] using w0
  exact ⟨.mk k s l m, Ty.At.of hI0 w1 r2 r3⟩
theorem read_atrs {fuel : Nat} {cs : List Value} {d : DataW H} {ps : List MemPlace} (h : DataW.trod enc Tryz.prog W 0 (fun _ => true) true fuel 37 cs = some (d, ps)) (hb : Rows.uptoBulk d ≤ 1048576) : ∃ l v, cs = [v] ∧ atrR.RowsAt (fun b => b < W.heap.size) W l v := by
 obtain ⟨B, h1, h2⟩ : ∃ B, Rows.uptoBulk d ≤ B ∧ B ≤ 1048576 := ⟨_, Nat.le_refl _, hb⟩
 exact read_rowsB atrR B h2 Tryz.underlying37 Tryz.cellsAt (fun _ _ _ _ h hb => read_atr B (fun fuel cs d ps h hb => read_ty B fuel cs d ps h hb h2) h hb) h h1
theorem read_et {fuel : Nat} {cs : List Value} {d : DataW H} {ps : List MemPlace} (h : DataW.trod enc Tryz.prog W 0 (fun _ => true) true fuel 39 cs = some (d, ps)) (hb : Rows.uptoBulk d ≤ 1048576) : ∃ x, entTR.At (fun b => b < W.heap.size) W x cs := by
 obtain ⟨xs, n, _, hx, hl, hlen, hf⟩ := DataW.trod_struct Tryz.underlying39 h
 rw [Tryz.cellsET] at hl
 injection hx with hd _
 match cs, hl with
 | [c0, c1, c2], _ =>
 match xs, hlen with
 | [x0, x1, x2], _ =>
 have h0 : DataW.trod enc Tryz.prog W 0 (fun _ => true) true n 9 (([c0, c1, c2].drop 0).take (Tryz.prog.cellsOf 9)) = some x0 := hf 0 _ rfl
 have h1 : DataW.trod enc Tryz.prog W 0 (fun _ => true) true n 36 (([c0, c1, c2].drop 1).take (Tryz.prog.cellsOf 36)) = some x1 := hf 1 _ rfl
 have h2 : DataW.trod enc Tryz.prog W 0 (fun _ => true) true n 37 (([c0, c1, c2].drop 2).take (Tryz.prog.cellsOf 37)) = some x2 := hf 2 _ rfl
 rw [zbw] at h0
 rw [zc5] at h1
 rw [Tryz.cellsAs] at h2
 have hsub : ∀ x ∈ [x0, x1, x2], Rows.uptoBulk x.1 + 1 ≤ Rows.uptoBulk d := fun x hx => by
  rw [hd]
  have := zb6 (show x.1 ∈ [x0, x1, x2].map (fun x => x.1) from List.mem_map.2 ⟨x, hx, rfl⟩)
  simp only [Rows.uptoBulk]; omega
 have hb0 := hsub x0 (by simp)
 have hb1 := hsub x1 (by simp)
 have hb2 := hsub x2 (by simp)
 obtain ⟨s, e0, _, w0⟩ := DataW.trod_string Tryz.underlying9 h0
 obtain ⟨l, v1, e1, r1⟩ := read_strs (d := x1.1) (ps := x1.2) h1 (by omega)
 obtain ⟨m, v2, e2, r2⟩ := read_atrs (d := x2.1) (ps := x2.2) h2 (by omega)
 simp at e0 e1 e2
 subst e0 e1 e2
 exact ⟨⟨s, l, m⟩, _, _, rfl, w0, zdl r1, r2⟩
theorem read_ac {fuel : Nat} {cs : List Value} {d : DataW H} {ps : List MemPlace} (h : DataW.trod enc Tryz.prog W 0 (fun _ => true) true fuel 41 cs = some (d, ps)) (hb : Rows.uptoBulk d ≤ 1048576) : ∃ x, actTR.At (fun b => b < W.heap.size) W x cs := by
 obtain ⟨xs, n, _, hx, hl, hlen, hf⟩ := DataW.trod_struct Tryz.underlying41 h
 rw [Tryz.cellsAC] at hl
 injection hx with hd _
 match cs, hl with
 | [c0, c1, c2, c3, c4], _ =>
 match xs, hlen with
 | [x0, x1, x2, x3, x4], _ =>
 have h0 : DataW.trod enc Tryz.prog W 0 (fun _ => true) true n 9 (([c0, c1, c2, c3, c4].drop 0).take (Tryz.prog.cellsOf 9)) = some x0 := hf 0 _ rfl
 have h1 : DataW.trod enc Tryz.prog W 0 (fun _ => true) true n 36 (([c0, c1, c2, c3, c4].drop 1).take (Tryz.prog.cellsOf 36)) = some x1 := hf 1 _ rfl
 have h2 : DataW.trod enc Tryz.prog W 0 (fun _ => true) true n 36 (([c0, c1, c2, c3, c4].drop 2).take (Tryz.prog.cellsOf 36)) = some x2 := hf 2 _ rfl
 have h3 : DataW.trod enc Tryz.prog W 0 (fun _ => true) true n 36 (([c0, c1, c2, c3, c4].drop 3).take (Tryz.prog.cellsOf 36)) = some x3 := hf 3 _ rfl
 have h4 : DataW.trod enc Tryz.prog W 0 (fun _ => true) true n 37 (([c0, c1, c2, c3, c4].drop 4).take (Tryz.prog.cellsOf 37)) = some x4 := hf 4 _ rfl
 rw [zbw] at h0
 rw [zc5] at h1
 rw [zc5] at h2
 rw [zc5] at h3
 rw [Tryz.cellsAs] at h4
 have hsub : ∀ x ∈ [x0, x1, x2, x3, x4], Rows.uptoBulk x.1 + 1 ≤ Rows.uptoBulk d := fun x hx => by
  rw [hd]
  have := zb6 (show x.1 ∈ [x0, x1, x2, x3, x4].map (fun x => x.1) from List.mem_map.2 ⟨x, hx, rfl⟩)
  simp only [Rows.uptoBulk]; omega
 have hb0 := hsub x0 (by simp)
 have hb1 := hsub x1 (by simp)
 have hb2 := hsub x2 (by simp)
 have hb3 := hsub x3 (by simp)
 have hb4 := hsub x4 (by simp)
 obtain ⟨s, e0, _, w0⟩ := DataW.trod_string Tryz.underlying9 h0
 obtain ⟨l1, v1, e1, r1⟩ := read_strs (d := x1.1) (ps := x1.2) h1 (by omega)
 obtain ⟨l2, v2, e2, r2⟩ := read_strs (d := x2.1) (ps := x2.2) h2 (by omega)
 obtain ⟨l3, v3, e3, r3⟩ := read_strs (d := x3.1) (ps := x3.2) h3 (by omega)
 obtain ⟨m, v4, e4, r4⟩ := read_atrs (d := x4.1) (ps := x4.2) h4 (by omega)
 simp at e0 e1 e2 e3 e4
 subst e0 e1 e2 e3 e4
 exact ⟨⟨s, l1, l2, l3, m⟩, _, _, _, _, rfl, w0, zdl r1, zdl r2, zdl r3, r4⟩
theorem read_sch {fuel : Nat} {cs : List Value} {d : DataW H} {ps : List MemPlace} (h : DataW.trod enc Tryz.prog W 0 (fun _ => true) true fuel 25 cs = some (d, ps)) (hb : Rows.uptoBulk d ≤ 1048576) : ∃ s, Sch.At (fun b => b < W.heap.size) W s cs := by
 obtain ⟨xs, n, _, hx, hl, hlen, hf⟩ := DataW.trod_struct Tryz.underlying25 h
 rw [Tryz.cellsSc] at hl
 injection hx with hd _
 match cs, hl with
 | [c0, c1], _ =>
 match xs, hlen with
 | [x0, x1], _ =>
 have h0 : DataW.trod enc Tryz.prog W 0 (fun _ => true) true n 22 (([c0, c1].drop 0).take (Tryz.prog.cellsOf 22)) = some x0 := hf 0 _ rfl
 have h1 : DataW.trod enc Tryz.prog W 0 (fun _ => true) true n 23 (([c0, c1].drop 1).take (Tryz.prog.cellsOf 23)) = some x1 := hf 1 _ rfl
 rw [Tryz.cellsETs] at h0
 rw [Tryz.cellsACs] at h1
 have hsub : ∀ x ∈ [x0, x1], Rows.uptoBulk x.1 + 1 ≤ Rows.uptoBulk d := fun x hx => by
  rw [hd]
  have := zb6 (show x.1 ∈ [x0, x1].map (fun x => x.1) from List.mem_map.2 ⟨x, hx, rfl⟩)
  simp only [Rows.uptoBulk]; omega
 have hb0 := hsub x0 (by simp)
 have hb1 := hsub x1 (by simp)
 obtain ⟨l, v0, e0, r0⟩ := read_rows entTR Tryz.underlying22 Tryz.cellsET (fun _ _ _ _ h hb => read_et h hb) (d := x0.1) (ps := x0.2) h0 (by omega)
 obtain ⟨m, v1, e1, r1⟩ := read_rows actTR Tryz.underlying23 Tryz.cellsAC (fun _ _ _ _ h hb => read_ac h hb) (d := x1.1) (ps := x1.2) h1 (by omega)
 simp at e0 e1
 subst e0 e1
 exact ⟨⟨l, m⟩, _, _, rfl, r0, r1⟩
end
theorem read_sch_arg {H : Type} {enc : TypeId × Value → H} {W : World} {base : Nat} {v : Value} {d : DataW H} {p : List MemPlace} (hv : Value.okWide Tryz.prog W .any base 25 v) (h : DataW.Trod enc Tryz.prog W 0 (fun _ => true) true 25 v d p) (hb : Rows.uptoBulk d ≤ 1048576) :
  ∃ x cs, v = .agg (List.toArray cs) ∧ Sch.At (fun b => b < W.heap.size) W x cs := by
 obtain ⟨cs, rfl, hsz⟩ := okWide_struct Tryz.underlying25 hv
 obtain ⟨fuel, hf⟩ := h
 obtain ⟨x, hx⟩ := read_sch (d := d) (ps := p) hf hb
 exact ⟨x, cs.toList, by simp, hx⟩
end Go.Proofs.YtbkaffhbhimglaaGreat
