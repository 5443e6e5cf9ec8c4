/-
  A request that is read has names of no more than the bulk. The conditions: the reading is of bulk at most 1048576.
-/
import Derived.Test.YtebfoimbdljbmaaGreatDoorReadXQ
import Derived.Test.YtebfoimbdljbmaaGreatDoorGg
namespace Go.Proofs.YtebfoimbdljbmaaGreatDoor
open Go.ChangeShapes Go.WideShapes Go.ChangeAt Go.RowKit
set_option maxRecDepth 100000
theorem read_req_size {H : Type} {enc : TypeId × Value → H} {W : World} {S : Nat → Prop} {fuel : Nat} {cs : List Value} {d : DataW H} {ps : List MemPlace} {q : Req} (h : DataW.trod enc Tryz.prog W 0 (fun _ => true) true fuel 34 cs = some (d, ps)) (hb : Rows.uptoBulk d ≤ 1048576) (hq : Req.At S W q cs) : q.pr.1.size ≤ 1048576 := by
 obtain ⟨acs, rfl, _⟩ := hq
 obtain ⟨xs, n, _, hx, hl, hlen, hf⟩ := DataW.trod_struct Tryz.underlying34 h
 injection hx with hd _
 match xs, hlen with
 | [x0, x1, x2, x3], _ =>
 have h0 : DataW.trod enc Tryz.prog W 0 (fun _ => true) true n 23 (((.string q.pr.1 :: .string q.pr.2 :: .string q.act.1 :: .string q.act.2 :: .string q.res.1 :: .string q.res.2 :: acs).drop 0).take (Tryz.prog.cellsOf 23)) = some x0 := hf 0 _ rfl
 rw [za8] at h0
 obtain ⟨ys, m, _, hy, hl2, hlen2, hg⟩ := DataW.trod_struct Tryz.underlying23 h0
 match ys, hlen2 with
 | [y0, y1], _ =>
 have g0 : DataW.trod enc Tryz.prog W 0 (fun _ => true) true m 9 (([.string q.pr.1, .string q.pr.2].drop 0).take (Tryz.prog.cellsOf 9)) = some y0 := hg 0 _ rfl
 rw [zbd] at g0
 obtain ⟨s, e4, ed, _⟩ := DataW.trod_string Tryz.underlying9 g0
 simp at e4
 subst e4
 have b1 := zb3 (show x0.1 ∈ [x0, x1, x2, x3].map (fun x => x.1) by simp)
 have b2 := zb3 (show y0.1 ∈ [y0, y1].map (fun x => x.1) by simp)
 rw [hd] at hb
 have hx0 : x0.1 = .agg [y0.1, y1.1] := congrArg Prod.fst hy
 have e1 : Rows.uptoBulk x0.1 = Rows.uptoBulkAll [y0.1, y1.1] + 1 := by rw [hx0]; simp only [Rows.uptoBulk]
 have e2 : Rows.uptoBulk y0.1 = q.pr.1.data.toList.length + 1 := by rw [ed]; simp only [Rows.uptoBulk]
 have e3 : Rows.uptoBulk (.agg ([x0, x1, x2, x3].map fun x => x.1)) = Rows.uptoBulkAll ([x0, x1, x2, x3].map fun x => x.1) + 1 := by simp only [Rows.uptoBulk]
 have hb : Rows.uptoBulk (.agg ([x0, x1, x2, x3].map fun x => x.1)) ≤ 1048576 := hb
 have b2 : Rows.uptoBulk y0.1 ≤ Rows.uptoBulkAll [y0.1, y1.1] := b2
 rw [e3] at hb
 have hs : q.pr.1.size = q.pr.1.data.toList.length := by rw [Array.length_toList]; rfl
 omega
theorem read_req_fit {H : Type} {enc : TypeId × Value → H} {W : World} {base : Nat} {v : Value} {d : DataW H} {p : List MemPlace} (hv : Value.okWide Tryz.prog W .any base 34 v) (h : DataW.Trod enc Tryz.prog W 0 (fun _ => true) true 34 v d p) (hb : Rows.uptoBulk d ≤ 1048576) :
  ∃ x cs, v = .agg (List.toArray cs) ∧ Req.At (fun b => b < W.heap.size) W x cs ∧ x.pr.1.size ≤ 1048576 := by
 obtain ⟨cs, rfl, hsz⟩ := okWide_struct Tryz.underlying34 hv
 obtain ⟨fuel, hf⟩ := h
 obtain ⟨x, hx⟩ := read_req (d := d) (ps := p) hf hb
 exact ⟨x, cs.toList, by simp, hx, read_req_size hf hb hx⟩
end Go.Proofs.YtebfoimbdljbmaaGreatDoor
