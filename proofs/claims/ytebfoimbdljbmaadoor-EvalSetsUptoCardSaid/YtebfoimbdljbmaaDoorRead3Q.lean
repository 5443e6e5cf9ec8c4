/-
  A law's argument that is a slice of strings, or of numbers, as plain data. The conditions: what is read is of bulk at most 1048576.
-/
import Derived.Test.YtebfoimbdljbmaaDoorGg
namespace Go.Proofs.YtebfoimbdljbmaaDoor
open Go.ChangeShapes Go.WideShapes Go.ChangeAt Go.RowKit Go.Deep

/-- a slice of numbers of some kind -/
def IntsAt (K : IntKind) (S : Nat → Prop) (w : World) (l : List Int) (v : Value) : Prop :=
  ∃ A cap, v = .slice A l.length cap ∧ l.length ≤ LIM ∧ l.length ≤ cap ∧ cap ≤ maxLen ∧ (∀ n ∈ l, (Lit.int K n).wf = true) ∧
    (0 < l.length → ∃ b o, A = some ⟨b, o, none⟩ ∧ S b ∧ CellsAt w b o (l.map fun n => Value.int K n))
theorem IntsAt.alike {K : IntKind} {S : Nat → Prop} {w w' : World} {l : List Int} {v : Value} (h : IntsAt K S w l v) (k : Alike S w w') : IntsAt K S w' l v := by
  obtain ⟨A, cap, h1, h0, h2, h3, h4, h5⟩ := h
  exact ⟨A, cap, h1, h0, h2, h3, h4, fun hn => let ⟨b, o, e, hs, hc⟩ := h5 hn; ⟨b, o, e, hs, hc.alike hs k⟩⟩
theorem bulk_lits {H : Type} {k : IntKind} : ∀ l : List Int, l.length ≤ Rows.uptoBulkAll (lits k l : List (DataW H))
  | [] => by simp
  | n :: r => by
    have h := bulk_length (lits k (n :: r) : List (DataW H))
    simpa [lits] using h

set_option maxRecDepth 100000 in
theorem read_ints_arg {H : Type} {enc : TypeId × Value → H} {W : World} {base : Nat} {v : Value} {d : DataW H} {p : List MemPlace} {t e : TypeId} {k : IntKind} (ht : Tryd.prog.underlying t = some (.slice e)) (he : Tryd.prog.underlying e = some (.int k)) (hc : Tryd.prog.cellsOf e = 1)
    (hv : Value.okWide Tryd.prog W .any base t v) (h : DataW.Trod enc Tryd.prog W 0 (fun _ => true) true t v d p) (hb : Rows.uptoBulk d ≤ 1048576) :
    ∃ l, IntsAt k (fun b => b < W.heap.size) W l v := by
  obtain ⟨a0, len, cap, rfl⟩ := okWide_slice ht hv
  obtain ⟨fuel, hf⟩ := h
  rcases open_ints ht he hc hf with ⟨e1, _⟩ | ⟨a, len', cap', zs, e1, hb0, hl, hm, hzl, hx, hcell, hwf⟩
  · have e1 : [Value.slice a0 len cap] = [Value.slice none 0 0] := e1
    injection e1 with e1 _
    injection e1 with e1 e2 e3
    subst e1 e2 e3
    exact ⟨[], none, 0, rfl, by simp, by simp, by simp, by simp, by simp⟩
  · have e1 : [Value.slice a0 len cap] = [Value.slice (some a) len' cap'] := e1
    injection e1 with e1 _
    injection e1 with e1 e2 e3
    subst e1 e2 e3
    have hzc : zs.length = cap := by simpa using hzl
    injection hx with hd _
    have hlen : len ≤ 1048576 := by
      rw [hd] at hb
      simp only [Rows.uptoBulk] at hb
      have := bulk_lits (H := H) (k := k) (zs.take len)
      rw [List.length_take] at this
      omega
    have htl : (zs.take len).length = len := by rw [List.length_take]; omega
    refine ⟨zs.take len, some a, cap, by rw [htl], by rw [htl]; unfold LIM; omega, by rw [htl]; exact hl, hm, fun n hn => hwf n (List.mem_of_mem_take hn), fun h0 => ?_⟩
    rw [htl] at h0
    obtain ⟨b, o, spot⟩ := a
    have hc0 : W.cell? ⟨b, o, spot⟩ = some (.int k (zs.getD 0 0)) := by simpa [Addr.add] using hcell 0 (by omega)
    have hspot : spot = none := World.cell?_spot hc0
    subst hspot
    refine ⟨b, o, rfl, World.block_lt_of_cell? W _ hc0, fun j u hj => ?_⟩
    rw [List.getElem?_map, List.getElem?_take] at hj
    split at hj
    · rename_i hjl
      have h1 := hcell j (by omega)
      rw [Go.WideShapes.add_plain] at h1
      have h2 : zs[j]? = some zs[j] := List.getElem?_eq_getElem (by omega)
      rw [h2] at hj
      simp at hj
      subst hj
      simpa [List.getD, h2] using h1
    · cases hj
end Go.Proofs.YtebfoimbdljbmaaDoor
