/-
  A law's arguments that are requests, scopes, expressions, as plain data. The conditions: what is read is of bulk at most 1048576.
-/
import Derived.Test.YtebfoimbdljbmaaGreatDoorGg
import Derived.Test.YtebfoimbdljbmaaGreatDoorGk
import Derived.Test.YtebfoimbdljbmaaGreatDoorExpQ
import Derived.Test.YtebfoimbdljbmaaGreatDoorScpQ
namespace Go.Proofs.YtebfoimbdljbmaaGreatDoor
open Go.ChangeShapes Go.WideShapes Go.ChangeAt Go.RowKit Go.Deep

section
variable {H : Type} {enc : TypeId × Value → H} {W : World}
end

section
variable {H : Type} {enc : TypeId × Value → H} {W : World}
end

theorem Tryz.cellsSp : Tryz.prog.cellsOf 52 = 6 := by kernel_rfl
section
variable {H : Type} {enc : TypeId × Value → H} {W : World}
set_option maxRecDepth 100000 in
/-- a scope -/
theorem read_scp {fuel : Nat} {cs : List Value} {d : DataW H} {ps : List MemPlace} (h : DataW.trod enc Tryz.prog W 0 (fun _ => true) true fuel 52 cs = some (d, ps)) (hb : Rows.uptoBulk d ≤ 1048576) : ∃ x, scpR.At (fun b => b < W.heap.size) W x cs := by
  obtain ⟨xs, n, _, hx, hl, hlen, hf⟩ := DataW.trod_struct Tryz.underlying52 h
  rw [Tryz.cellsSp] at hl
  injection hx with hd _
  match cs, hl with
  | [c0, c1, c2, c3, c4, c5], _ =>
  match xs, hlen with
  | [x0, x1, x2, x3, x4], _ =>
  have h0 : DataW.trod enc Tryz.prog W 0 (fun _ => true) true n 3 (([c0, c1, c2, c3, c4, c5].drop 0).take (Tryz.prog.cellsOf 3)) = some x0 := hf 0 _ rfl
  have h1 : DataW.trod enc Tryz.prog W 0 (fun _ => true) true n 9 (([c0, c1, c2, c3, c4, c5].drop 1).take (Tryz.prog.cellsOf 9)) = some x1 := hf 1 _ rfl
  have h2 : DataW.trod enc Tryz.prog W 0 (fun _ => true) true n 23 (([c0, c1, c2, c3, c4, c5].drop 2).take (Tryz.prog.cellsOf 23)) = some x2 := hf 2 _ rfl
  have h3 : DataW.trod enc Tryz.prog W 0 (fun _ => true) true n 4 (([c0, c1, c2, c3, c4, c5].drop 4).take (Tryz.prog.cellsOf 4)) = some x3 := hf 3 _ rfl
  have h4 : DataW.trod enc Tryz.prog W 0 (fun _ => true) true n 50 (([c0, c1, c2, c3, c4, c5].drop 5).take (Tryz.prog.cellsOf 50)) = some x4 := hf 4 _ rfl
  rw [Tryz.cells3] at h0
  rw [Tryz.cells9] at h1
  rw [Tryz.cells23] at h2
  rw [Tryz.cells4] at h3
  rw [Tryz.cellsUs] at h4
  have hsub : ∀ x ∈ [x0, x1, x2, x3, x4], Rows.uptoBulk x.1 + 1 ≤ Rows.uptoBulk d := fun x hx => by
    rw [hd]
    have := bulk_part (show x.1 ∈ [x0, x1, x2, x3, x4].map (fun x => x.1) from List.mem_map.2 ⟨x, hx, rfl⟩)
    simp only [Rows.uptoBulk]; omega
  have hb0 := hsub x0 (by simp)
  have hb1 := hsub x1 (by simp)
  have hb2 := hsub x2 (by simp)
  have hb3 := hsub x3 (by simp)
  have hb4 := hsub x4 (by simp)
  obtain ⟨k, e0, _, w0⟩ := DataW.trod_int Tryz.underlying3 h0
  obtain ⟨s, e1, _, w1⟩ := DataW.trod_string Tryz.underlying9 h1
  obtain ⟨u, eu, fu⟩ := read_uid (d := x2.1) (ps := x2.2) h2
  obtain ⟨b, e3, _⟩ := DataW.trod_bool Tryz.underlying4 h3
  obtain ⟨l, v4, e4, r4⟩ := read_rows uidR Tryz.underlying50 Tryz.cells23 (fun _ _ _ _ h _ => read_uid h) (d := x4.1) (ps := x4.2) h4 (by omega)
  simp at e0 e1 eu e3 e4
  obtain ⟨rfl, rfl⟩ := eu
  subst e0 e1 e3 e4
  have hI0 : I64 k := by simpa [I64, Lit.wf, IntKind.min, IntKind.max, IntKind.signed, IntKind.bits] using w0
  exact ⟨⟨k, s, u, b, l⟩, _, rfl, hI0, w1, fu, r4⟩
end
set_option maxRecDepth 100000 in
theorem read_scp_arg {H : Type} {enc : TypeId × Value → H} {W : World} {base : Nat} {v : Value} {d : DataW H} {p : List MemPlace} (hv : Value.okWide Tryz.prog W .any base 52 v) (h : DataW.Trod enc Tryz.prog W 0 (fun _ => true) true 52 v d p) (hb : Rows.uptoBulk d ≤ 1048576) :
    ∃ x cs, v = .agg (List.toArray cs) ∧ scpR.At (fun b => b < W.heap.size) W x cs := by
  obtain ⟨cs, rfl, hsz⟩ := okWide_struct Tryz.underlying52 hv
  obtain ⟨fuel, hf⟩ := h
  obtain ⟨x, hx⟩ := read_scp (d := d) (ps := p) hf hb
  exact ⟨x, cs.toList, by simp, hx⟩
end Go.Proofs.YtebfoimbdljbmaaGreatDoor
