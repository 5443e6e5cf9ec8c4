/-
  A law's arguments that are requests, scopes, expressions, as plain data. The conditions: what is read is of bulk at most 1048576.
-/
import Derived.Test.YtebfoimbdljbmaaGreatDoorGg
import Derived.Test.YtebfoimbdljbmaaGreatDoorGk
import Derived.Test.YtebfoimbdljbmaaGreatDoorExpQ
import Derived.Test.YtebfoimbdljbmaaGreatDoorScpQ
namespace Go.Proofs.YtebfoimbdljbmaaGreatDoor
open Go.ChangeShapes Go.WideShapes Go.ChangeAt Go.RowKit Go.Deep
set_option maxRecDepth 100000
theorem Tryz.cellsRq : Tryz.prog.cellsOf 34 = 14 := by kernel_rfl
section
variable {H : Type} {enc : TypeId × Value → H} {W : World}
theorem read_req {fuel : Nat} {cs : List Value} {d : DataW H} {ps : List MemPlace} (h : DataW.trod enc Tryz.prog W 0 (fun _ => true) true fuel 34 cs = some (d, ps)) (hb : Rows.uptoBulk d ≤ 1048576) : ∃ q, Req.At (fun b => b < W.heap.size) W q cs := by
 obtain ⟨xs, n, _, hx, hl, hlen, hf⟩ := DataW.trod_struct Tryz.underlying34 h
 rw [Tryz.cellsRq] at hl
 injection hx with hd _
 match cs, hl with
 | [c0, c1, c2, c3, c4, c5, c6, c7, c8, c9, c10, c11, c12, c13], _ =>
 match xs, hlen with
 | [x0, x1, x2, x3], _ =>
 have h0 : DataW.trod enc Tryz.prog W 0 (fun _ => true) true n 23 (([c0, c1, c2, c3, c4, c5, c6, c7, c8, c9, c10, c11, c12, c13].drop 0).take (Tryz.prog.cellsOf 23)) = some x0 := hf 0 _ rfl
 have h1 : DataW.trod enc Tryz.prog W 0 (fun _ => true) true n 23 (([c0, c1, c2, c3, c4, c5, c6, c7, c8, c9, c10, c11, c12, c13].drop 2).take (Tryz.prog.cellsOf 23)) = some x1 := hf 1 _ rfl
 have h2 : DataW.trod enc Tryz.prog W 0 (fun _ => true) true n 23 (([c0, c1, c2, c3, c4, c5, c6, c7, c8, c9, c10, c11, c12, c13].drop 4).take (Tryz.prog.cellsOf 23)) = some x2 := hf 2 _ rfl
 have h3 : DataW.trod enc Tryz.prog W 0 (fun _ => true) true n 27 (([c0, c1, c2, c3, c4, c5, c6, c7, c8, c9, c10, c11, c12, c13].drop 6).take (Tryz.prog.cellsOf 27)) = some x3 := hf 3 _ rfl
 rw [za8] at h0
 rw [za8] at h1
 rw [za8] at h2
 rw [zbx] at h3
 have hsub : ∀ x ∈ [x0, x1, x2, x3], Rows.uptoBulk x.1 + 1 ≤ Rows.uptoBulk d := fun x hx => by
  rw [hd]
  have := zb3 (show x.1 ∈ [x0, x1, x2, x3].map (fun x => x.1) from List.mem_map.2 ⟨x, hx, rfl⟩)
  simp only [Rows.uptoBulk]; omega
 have hb0 := hsub x0 (by simp)
 have hb1 := hsub x1 (by simp)
 have hb2 := hsub x2 (by simp)
 have hb3 := hsub x3 (by simp)
 obtain ⟨u0, eu0, fu0⟩ := read_uid (d := x0.1) (ps := x0.2) h0
 obtain ⟨u1, eu1, fu1⟩ := read_uid (d := x1.1) (ps := x1.2) h1
 obtain ⟨u2, eu2, fu2⟩ := read_uid (d := x2.1) (ps := x2.2) h2
 obtain ⟨B, b1, b2⟩ : ∃ B, Rows.uptoBulk x3.1 ≤ B ∧ B ≤ 1048576 := ⟨1048576, by omega, Nat.le_refl _⟩
 obtain ⟨v, hv⟩ := read_val B n _ x3.1 x3.2 h3 b1 b2
 simp at eu0 eu1 eu2 hv
 obtain ⟨rfl, rfl⟩ := eu0
 obtain ⟨rfl, rfl⟩ := eu1
 obtain ⟨rfl, rfl⟩ := eu2
 exact ⟨⟨u0, u1, u2, v⟩, _, rfl, ⟨fu0, fu1, fu2⟩, hv⟩
end
section
variable {H : Type} {enc : TypeId × Value → H} {W : World}
end
section
variable {H : Type} {enc : TypeId × Value → H} {W : World}
end
end Go.Proofs.YtebfoimbdljbmaaGreatDoor
