/-
  How deep an expression is, as the document's own function tells it. The conditions: what is handed in lies in memory as it should; it is not too deep.
-/
import Derived.Test.YtebfoimbdljbmaaGreatDoorEvEQ
namespace Go.Proofs.YtebfoimbdljbmaaGreatDoor
open Go.RowKit

set_option maxRecDepth 100000 in
set_option maxHeartbeats 4000000 in
theorem depthR_ok (n : Nat) : ∀ (e : Exp) (w : World) (cs : List Value), SizeOf.sizeOf e ≤ n → e.dep ≤ 1000000 → InX w e cs →
    Calls Tryz.prog 14 #[.agg cs.toArray] w fun r w' => r = .returned (.int .i64 e.dep) ∧ Ext w w' := by
  induction n with
  | zero => intro e; cases e; simp
  | succ n ih =>
    intro e w cs hn hd he
    obtain ⟨eo, ev, en, eks, ens⟩ := e
    obtain ⟨lk, lb, ln, ls, lt, lu, lA, ll, lc, lB, lm, ld, eK, ec, eN, ed, hcs, _, hev, hek, hen⟩ := Exp.At.shape he
    obtain rfl : cs = [.int .i64 eo, .int .i64 lk, .bool lb, .int .i64 ln, .string ls, .string lt, .string lu, .slice lA ll lc, .slice lB lm ld, .string en, .slice eK eks.length ec, .slice eN ens.length ed] := hcs
    have hev : InW w ev [.int .i64 lk, .bool lb, .int .i64 ln, .string ls, .string lt, .string lu, .slice lA ll lc, .slice lB lm ld] := hev
    have hek : expR.RowsAt (fun b => b < w.heap.size) w eks (.slice eK eks.length ec) := hek
    have hen : StrsAt (fun b => b < w.heap.size) w ens (.slice eN ens.length ed) := hen
    obtain ⟨_, _, eq0, ⟨hk0, hk1, hk2⟩, hkr⟩ := hek
    injection eq0 with eq1 eq2 eq3
    subst eq1 eq3
    obtain ⟨_, _, eq0, hn0, hn1, hn2, _⟩ := id hen
    injection eq0 with eq1 eq4 eq3
    subst eq1 eq3
    rw [LIM_eq] at hk0 hn0
    rw [maxLen_eq] at hk2 hn2
    have HK := Lib.hid hkr
    clear eq2 eq4 hkr
    have hd : Exp.deps eks + 1 ≤ 1000000 := by simpa [Exp.dep] using hd
    have HDp : Hid ((Exp.mk eo ev en eks ens).dep = Exp.deps eks + 1) := Lib.hid (by simp [Exp.dep])
    generalize (Exp.mk eo ev en eks ens).dep = res at *
    have Hn := Lib.hid hn
    have IH := Lib.hid ih
    have HX0 := Lib.hid ((Ext.refl w).alloc (.cells #[.int .i64 eo, .int .i64 lk, .bool lb, .int .i64 ln, .string ls, .string lt, .string lu, .slice lA ll lc, .slice lB lm ld, .string en, .slice eK eks.length ec, .slice eN ens.length ed] 30))
    have HB0 := Lib.hid (heap_alloc_new w (.cells #[.int .i64 eo, .int .i64 lk, .bool lb, .int .i64 ln, .string ls, .string lt, .string lu, .slice lA ll lc, .slice lB lm ld, .string en, .slice eK eks.length ec, .slice eN ens.length ed] 30))
    clear he hev hen hn ih
    go_enter Tryz.func14, Tryz.ntmps14
    go_wp2_with fail
    go_loopw [3, 4] (fun m i' wr => ∃ (j z : Nat), j ≤ eks.length ∧ i' = .int .i64 j ∧ m = .int .i64 z ∧ z ≤ Exp.deps eks ∧ Hid (z = Exp.deps (eks.take j)) ∧ Hid (Ext w wr) ∧ Hid (wr.heap[w.heap.size]? = some (.cells #[.int .i64 eo, .int .i64 lk, .bool lb, .int .i64 ln, .string ls, .string lt, .string lu, .slice lA ll lc, .slice lB lm ld, .string en, .slice eK eks.length ec, .slice eN ens.length ed] 30 (0, 0)))) (fun _ i' _ => eks.length - (intOf i').toNat)
    case atStart => exact ⟨0, 0, Nat.zero_le _, rfl, rfl, Nat.zero_le _, Lib.hid (by simp [Exp.deps]), HX0, HB0⟩
    case round =>
      clear HX0 HB0
      obtain ⟨j, z, hj, rfl, rfl, hz, HZ, HX, HB⟩ := hrel
      have c10 := cell_of_row _ _ 10 _ _ _ HB.out
      simp at c10
      by_cases hlt : j < eks.length
      · obtain ⟨b, o, eA, hSb, hrow⟩ := HK.out (by omega)
        subst eA
        obtain ⟨x, hx⟩ : ∃ x, eks[j]? = some x := ⟨_, List.getElem?_eq_getElem hlt⟩
        obtain ⟨cx, hcx, hxa⟩ := hrow j x hx
        obtain ⟨z1, z2, z3, z4, z5, z6, z7, z8, z9, za, zb, zc, zd, ze, zf, zg, hcs, _⟩ := Exp.At.shape hxa
        subst hcs
        have hcx : CellsAt w b (o + j * 12) [.int .i64 x.op, .int .i64 z1, .bool z2, .int .i64 z3, .string z4, .string z5, .string z6, .slice z7 z8 z9, .slice za zb zc, .string x.name, .slice zd x.kids.length ze, .slice zf x.names.length zg] := hcx
        have Hcx := Lib.hid (hcx.alike hSb (Alike.of_ext HX.out fun _ h => h))
        have Hxa := Lib.hid (InX.ext (e := x) hxa HX.out)
        have Hsz := Lib.hid (show SizeOf.sizeOf x ≤ n by have := Hn.out; have := Exp.size_get hx; simp at *; omega)
        have Htk := Lib.hid (show Exp.deps (eks.take (j + 1)) = max (Exp.deps (eks.take j)) x.dep from Exp.deps_take_succ hx)
        have hxd : x.dep ≤ Exp.deps eks := Exp.deps_mem (List.mem_of_getElem? hx)
        clear hcx hrow hSb hxa hx
        go_wp2_with (first | (with_reducible refine at_load ?_; refine wpList_load_cells rfl 30 _ rfl b (o + j * 12) rfl Tryz.aggEx Tryz.sizeEx rfl Hcx.out ?_))
        refine (IH.out x _ [.int .i64 x.op, .int .i64 z1, .bool z2, .int .i64 z3, .string z4, .string z5, .string z6, .slice z7 z8 z9, .slice za zb zc, .string x.name, .slice zd x.kids.length ze, .slice zf x.names.length zg] Hsz.out (by omega) Hxa.out).mono ?_
        rintro r w2 ⟨rfl, hx2⟩
        have HX2 := Lib.hid (HX.out.trans hx2)
        have HB2 := Lib.hid ((hx2.block _ (Blk_lt HB.out)).trans HB.out)
        have c10' := cell_of_row _ _ 10 _ _ _ HB2.out
        simp at c10'
        clear hx2 HX HB c10
        by_cases hm : z < x.dep
        · go_wp2_with fail
          go_roundw
          case rel => exact ⟨j + 1, x.dep, by omega, by go_num, by go_num, hxd, Lib.hid (by rw [Htk.out, ← HZ.out]; omega), HX2, HB2⟩
          case measure => simp [intOf]; omega
        · go_wp2_with fail
          go_roundw
          case rel => exact ⟨j + 1, z, by omega, by go_num, by go_num, hz, Lib.hid (by rw [Htk.out, ← HZ.out]; omega), HX2, HB2⟩
          case measure => simp [intOf]; omega
      · have hje : j = eks.length := by omega
        subst hje
        have HZ' := Lib.hid (show z = Exp.deps eks by have := HZ.out; rwa [List.take_length] at this)
        clear HZ
        go_wp2_with fail
        go_ret
        exact ⟨ret_int (by rw [HDp.out, ← HZ'.out]; simp), HX.out⟩
end Go.Proofs.YtebfoimbdljbmaaGreatDoor
