/-
  What the row's list of laid variables gives the walks: the table of operators. The conditions: none beyond the row's own.
-/
import Derived.Test.YtebfoimbdljbmaaGreatDoorEvBQ
import Derived.Test.YtebfoimbdljbmaaGreatDoorRows
import Derived.ProofKit
import Derived.LaidMore
import Derived.Maps.Keyed
import Derived.WideKeyElems2
namespace Go.Proofs.YtebfoimbdljbmaaGreatDoor
open Go.ChangeShapes Go.WideShapes Go.ChangeAt Go.RowKit
set_option maxRecDepth 100000
theorem gSums : Tryz.prog.globalNamed "chamberlain/eval.sums" = some 0 := by kernel_rfl
theorem tSums : (Tryz.prog.globals[0]?).map (·.type) = some 142 := by kernel_rfl
theorem elem_func {P : Program} {w : World} {base : Nat} {sp : Nat → Bool} {n : Nat} {e : TypeId} {ps rs : Array TypeId} {va : Bool} {v : Value} {b : UInt8} {r : List UInt8} {y : DataW (List UInt8) × List MemPlace} {f0 : FuncId}
  (ht : P.underlying e = some (.func ps rs va)) (hone : ((List.range P.funcs.size).filter fun f => (P.funcs[f]?).any (·.name.toUTF8.data.toList == b :: r)) = [f0])
  (h : WideElems.elemAt (funcToken P) P w base sp true n e v = some y) (hy : y.1 = .held (b :: r)) : v = .func (.func f0) #[] #[] := by
 unfold WideElems.elemAt at h
 split at h
 ·rename_i hf
  have hc : v.cells.toList = [v] := by
   cases v <;> first | rfl | (simp [Value.formed, ht] at hf; done)
  rw [hc] at h
  obtain ⟨y1, y2⟩ := y
  have hy : y1 = .held (b :: r) := hy
  subst hy
  exact func_of_trod ht hone h
 ·cases h
theorem look_func {P : Program} {t k e : TypeId} {W w' : World} {bm : Nat} {es : Array MapEntry} {clock n : Nat} {ps rs : Array TypeId} {va : Bool} {q : IntKind} {a : Int} {z : Value} {D : DataW (List UInt8)} {b : UInt8} {r : List UInt8} {f0 : FuncId}
  (ht : P.underlying t = some (.map k e)) (hk : P.underlying k = some (.int q)) (he : P.underlying e = some (.func ps rs va)) (hz : (zeroValue e).run P w' = .ok z w') (hb : w'.heap[bm]? = some (.map es clock))
  (F : WideElems.Fit P k (WideElems.elemAt (funcToken P) P W 0 (fun _ => true) true n e) es clock) (hD : D = .map ((es.toList.map (WideElems.rg P k (WideElems.elemAt (funcToken P) P W 0 (fun _ => true) true n e))).foldr DataW.insert []))
  (hw : (Lit.int q a).wf = true) (hat : D.atKey (.int q a) .nil = .held (b :: r)) (hone : ((List.range P.funcs.size).filter fun f => (P.funcs[f]?).any (·.name.toUTF8.data.toList == b :: r)) = [f0]) :
  (Instr.lookup t (.map (some bm)) (.int q a) false).run P w' = .ok (.func (.func f0) #[] #[]) w' := by
 rcases Maps.fit_look (w := w') false (Maps.int_keyed hk) ht hz hb F (Maps.keyOf_int_mk hk hw) with ⟨_, _, h⟩ | ⟨e0, y, _, _, hrun, hR, hd, _⟩
 ·have := h .nil
  rw [← hD, hat] at this
  cases this
 ·have := hd .nil
  rw [← hD, hat] at this
  have e1 := elem_func he hone hR this.symm
  rw [e1] at hrun
  exact hrun
theorem sums_of_laid {W : World} (h : laidMetH Tryz.prog [("chamberlain/eval.sums", Rows.laid_chamberlain_eval_sums)] W) : Sums W := by
 obtain ⟨g, t, cs, fuel, p, hg, ht, hv, hd⟩ := h.funcs (List.mem_singleton.2 rfl)
 obtain rfl := Option.some.inj (gSums.symm.trans hg)
 obtain rfl := Option.some.inj (tSums.symm.trans ht)
 have hd' : DataW.trod (funcToken Tryz.prog) Tryz.prog W 0 (fun _ => true) true fuel 142 cs.toList = some (.map [(.int .i64 11, .held [99, 104, 97, 109, 98, 101, 114, 108, 97, 105, 110, 47, 105, 110, 116, 115, 46, 65, 100, 100]), (.int .i64 12, .held [99, 104, 97, 109, 98, 101, 114, 108, 97, 105, 110, 47, 105, 110, 116, 115, 46, 83, 117, 98]), (.int .i64 13, .held [99, 104, 97, 109, 98, 101, 114, 108, 97, 105, 110, 47, 105, 110, 116, 115, 46, 77, 117, 108])], p) := hd
 have um : Tryz.prog.underlying 142 = some (.map 3 141) := by kernel_rfl
 obtain ⟨ps, rs, va, uf⟩ : ∃ ps rs va, Tryz.prog.underlying 141 = some (.func ps rs va) := ⟨#[2, 2], #[2, 36], false, by kernel_rfl⟩
 have hzero : ∀ w', (zeroValue 141).run Tryz.prog w' = .ok .nilFunc w' := fun _ => by kernel_rfl
 rcases WideElems.open_map um hd' with ⟨_, hx⟩ | ⟨bm, es, clock, n, rfl, hcs, hb, _, F, hx⟩
 ·simp at hx
 simp only [Prod.mk.injEq] at hx
 have hcell : W.cell? ⟨0, 0, none⟩ = some (.map (some bm)) := by
  have := World.var?_cell hg hv 0
  rw [Array.eq_one_of_toList hcs] at this
  simpa using this
 refine ⟨bm, hcell, block_lt_of_cell hcell, zaf hb, fun w' hw => ⟨?_, ?_, ?_⟩⟩
 ·exact look_func um Tryz.underlying3 uf (hzero w') (hw.trans hb) F hx.1 (by decide) rfl (by kernel_rfl)
 ·exact look_func um Tryz.underlying3 uf (hzero w') (hw.trans hb) F hx.1 (by decide) rfl (by kernel_rfl)
 ·exact look_func um Tryz.underlying3 uf (hzero w') (hw.trans hb) F hx.1 (by decide) rfl (by kernel_rfl)
theorem door_met (os : Os) (args : Array Value) : laidMetH Tryz.prog [("chamberlain/eval.sums", Rows.laid_chamberlain_eval_sums)] ((World.doorLaid Tryz.prog 600 os).forCall (fun _ _ => 0) ⟨#[], args, []⟩).memory :=
 laidMetH_of_parts3 (fuel := 8) (laidMet_of_run' 8 (by kernel_rfl) (by kernel_rfl)) (by kernel_rfl) (by kernel_rfl)
end Go.Proofs.YtebfoimbdljbmaaGreatDoor
