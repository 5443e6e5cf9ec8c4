/-
  EvalAttributes answers true, and its arguments read as they did. The conditions: what is read is of bulk at most 1048576.
-/
import Derived.Test.YtebfoimbdljbmaaGreatDoorLaw14eQ
import Derived.Test.YtebfoimbdljbmaaGreatDoorGg
import Derived.Test.YtebfoimbdljbmaaGreatDoorGk
import Derived.Test.YtebfoimbdljbmaaGreatDoorExpQ
import Derived.Test.YtebfoimbdljbmaaGreatDoorScpQ
import Derived.Test.YtebfoimbdljbmaaGreatDoorEvalAttributesClosedQ
import Derived.Test.YtebfoimbdljbmaaGreatDoorLaid14Q
import Derived.Test.YtebfoimbdljbmaaGreatDoorCards
import Derived.Test.YtebfoimbdljbmaaGreatDoorTie
import Derived.Deep.DeepHandedRow
import Derived.Lib.LaidTab
namespace Go.Proofs.YtebfoimbdljbmaaGreatDoor.evalAttributes
open Go.ChangeShapes Go.WideShapes Go.ChangeAt Go.RowKit
set_option maxRecDepth 100000
open Go.ChangeMaps (open_string shut_string)
theorem contract (H : Type) (enc : TypeId × Value → H) (W : World) (base : Nat) (args : Array Value) (ds gs : List (DataW H)) (before : List MemPlace)
  (hval : ∀ (j : Nat) t v, Tryz.f7.params[j]? = some t → args[j]? = some v → Value.okWide Tryz.prog W .any base t v)
  (hW : DataW.Whole enc Tryz.prog Tryz.f7.params.toList Rows.evalAttributesSpec.vars false W args.toList ds gs before) (hk : Rows.uptoSmall H (ds ++ gs) = true) (hL : laidMetH Tryz.prog Rows.evalAttributesUptoRow.laid W) :
  Calls Tryz.prog 7 args W fun e W' => ∃ v, e = .returned v ∧ Rows.evalAttributesSpec.post enc Tryz.prog Tryz.f7 false true false false W args v W' := by
 have hW' := hW
 obtain ⟨p, q, hA0, hV, rfl, hfz, hnd⟩ := hW
 have hA : DataW.TrodAll enc Tryz.prog W 0 (fun _ => true) true Tryz.f7.params.toList args.toList ds p := hA0
 rw [Tryz.params7] at hA hval
 obtain ⟨v0, vs0, d0, ds0, p0, q0, hargs, rfl, rfl, h0, r0⟩ := trodAll_cons hA
 obtain ⟨v1, vs1, d1, ds1, p1, q1, rfl, rfl, rfl, h1, r1⟩ := trodAll_cons r0
 obtain ⟨v2, vs2, d2, ds2, p2, q2, rfl, rfl, rfl, h2, r2⟩ := trodAll_cons r1
 obtain ⟨v3, vs3, d3, ds3, p3, q3, rfl, rfl, rfl, h3, r3⟩ := trodAll_cons r2
 obtain ⟨v4, vs4, d4, ds4, p4, q4, rfl, rfl, rfl, h4, r4⟩ := trodAll_cons r3
 obtain ⟨rfl, rfl, rfl⟩ := trodAll_nil r4
 obtain rfl : args = #[v0, v1, v2, v3, v4] := by cases args; simp_all
 obtain ⟨rfl, rfl⟩ := trodVars_none hV
 have hk' : Rows.uptoBulkAll ([d0, d1, d2, d3, d4] ++ []) ≤ 1048576 := of_decide_eq_true hk
 simp only [List.append_nil, Rows.uptoBulkAll] at hk'
 obtain ⟨x0, cs0, e0, hx0⟩ := read_arg (hval 0 _ v0 rfl rfl) h0 (by omega)
 obtain ⟨x4, hx4⟩ := read_ents_arg (hval 4 _ v4 rfl rfl) h4 (by omega)
 subst e0
 obtain ⟨x1, rfl, rfl, rfl, hx1⟩ := open_string Tryz.underlying9 (hval 1 _ v1 rfl rfl) h1
 obtain ⟨x2, rfl, rfl, rfl⟩ := open_bool Tryz.underlying4 (hval 2 _ v2 rfl rfl) h2
 obtain ⟨x3, rfl, rfl, rfl⟩ := open_bool Tryz.underlying4 (hval 3 _ v3 rfl rfl) h3
 refine (evalAttributes_walk x0 x1 x2 x3 x4 W cs0 v4 hx0 hx1 hx4 (sums_of_laid hL)).mono fun e W' ⟨he, hg⟩ => ?_
 subst he
 exact ⟨_, rfl, law_post (by kernel_rfl) rfl (fun t ht => by
  have h := List.all_eq_true.1 (show (Tryz.f7.params.toList.all fun t => Tryz.prog.readableRec t && decide (t < Tryz.prog.types.size)) = true by kernel_rfl) t ht
  simp only [Bool.and_eq_true, decide_eq_true_eq] at h
  exact h) hW' rfl hg.toBelow⟩
theorem reads (os : Os) {H : Type} (enc : TypeId × Value → H) : ∃ places, DataW.whole enc Tryz.prog ((World.doorLaid Tryz.prog 600 os).forCall (fun _ _ => 0) ⟨#[], #[.agg #[.int .i64 0, .bool false, .int .i64 0, .string .empty, .string .empty, .string .empty, .slice none 0 0, .slice none 0 0], .string .empty, .bool false, .bool false, .slice none 0 0], []⟩).memory Tryz.f7.params.toList Rows.evalAttributesSpec.vars false (#[.agg #[.int .i64 0, .bool false, .int .i64 0, .string .empty, .string .empty, .string .empty, .slice none 0 0, .slice none 0 0], .string .empty, .bool false, .bool false, .slice none 0 0] : Array Value).toList 8 = some ([.agg [.lit (.int .i64 0), .lit (.bool false), .lit (.int .i64 0), .lit (.string []), .agg [.lit (.string []), .lit (.string [])], .nil, .nil], .lit (.string []), .lit (.bool false), .lit (.bool false), .nil], [], places) :=
 ⟨[], by kernel_rfl⟩
theorem lifted (os : Os) (started : os.Started) (H : Type) (enc : TypeId × Value → H) (F : Stop.Interp) :
  ReturnsInHanded {} Tryz.checked os 7 .any ((Rows.OpenSpec.upto Rows.evalAttributesSpec).preRow enc Tryz.prog Tryz.f7 Rows.evalAttributesUptoRow.domain false Rows.evalAttributesUptoRow.laid) (((Rows.OpenSpec.upto Rows.evalAttributesSpec).at F).post enc Tryz.prog Tryz.f7 false true false false) := by
 obtain ⟨places, hx⟩ := reads os enc
 refine returnsInHanded_of_row (C := Tryz.checked) (s := Rows.OpenSpec.upto Rows.evalAttributesSpec) own started (by kernel_rfl) Tryz.func7
  (witness_row_at (enc := enc) (C := Tryz.checked) false (World.doorLaid Tryz.prog 600 os) #[.agg #[.int .i64 0, .bool false, .int .i64 0, .string .empty, .string .empty, .string .empty, .slice none 0 0, .slice none 0 0], .string .empty, .bool false, .bool false, .slice none 0 0] rfl (by kernel_rfl) (by kernel_rfl) (by kernel_rfl)
   (OpenSpec.preRow_of_cond 8 hx (by kernel_rfl) (fun k hk => by cases hk; kernel_rfl) (by kernel_rfl) (door_met os _))) ?_
 intro W base args ds gs before hval hW _ hcond _ hL _ _
 exact contract H enc W base args ds gs before hval hW (hcond _ rfl) hL
theorem said : Rows.EvalAttributesUptoSaid :=
 OpenClaim.holds_of_cond 7 Tryz.f7 rfl rfl rfl rfl rfl rfl rfl ⟨rfl, rfl, rfl, rfl, rfl⟩ rfl rfl rfl rfl rfl (by kernel_rfl) Tryz.func7 closed
  (of_decide_eq_true (by kernel_rfl)) (by unfold Func.isWrapper; first | (rw [if_pos (by decide +kernel)]; kernel_rfl) | (rw [if_neg (by decide +kernel)]; exact ⟨rfl, rfl⟩))
  (fun os started H enc _ F => by rw [OpenClaim.pre_eq_preRow]; exact lifted os started H enc F)
theorem plain (f : FuncId) (fn : Func) (hf : Tryz.pinned.checked.prog.funcNamed "chamberlain/chamberlainlaw14.EvalAttributes" = some f) (hfn : Tryz.pinned.checked.prog.funcs[f]? = some fn) :
  false = Tryz.pinned.checked.prog.looks [] ∧ ∀ (j : Nat) t, fn.params[j]? = some t → Tryz.pinned.checked.prog.wantsStandIn t = false := by
 obtain rfl : f = 7 := Option.some.inj ((show Tryz.prog.funcNamed "chamberlain/chamberlainlaw14.EvalAttributes" = some 7 by kernel_rfl).symm.trans hf) |>.symm
 obtain rfl : fn = Tryz.f7 := (Option.some.inj (Tryz.func7.symm.trans hfn)).symm
 refine ⟨by kernel_rfl, fun j t ht => ?_⟩
 have hall : (Tryz.f7.params.toList.all fun u => !(Tryz.prog.wantsStandIn u)) = true := by kernel_rfl
 have hm : t ∈ Tryz.f7.params.toList := by simpa using Array.mem_of_getElem? ht
 exact (show Tryz.prog.wantsStandIn t = false by simpa using List.all_eq_true.1 hall t hm)
theorem proved : Rows.EvalAttributesUptoCardSaid :=
 Claim7.holds_tied_plain_at .later [] _ _ _ _ said (fun _ h => by cases h) (by kernel_rfl) (fun _ h => by cases h) evalAttributesUpto_row_tie rfl ⟨rfl, rfl⟩ (by kernel_rfl) rfl plain (by kernel_rfl)
end Go.Proofs.YtebfoimbdljbmaaGreatDoor.evalAttributes
