/-
  Numbers and texts as bytes: what the program's number and text leave. The conditions: each contract's own.
-/
import Derived.Test.YtpkgkabcikmopaaBytes
namespace Go.Proofs.Ytpkgkabcikmopaa
open Go.RowKit

/-- the bytes of a number, the highest first, so many of them done from behind -/
def numCells (x n k : Nat) : List Value := (List.range n).map fun j => .int .u8 (if n - 1 - j < k then ((x / 2 ^ (8 * (n - 1 - j)) % 256 : Nat) : Int) else 0)
theorem numCells_zero (x n : Nat) : numCells x n 0 = List.replicate n (.int .u8 0) := by
  unfold numCells
  apply List.ext_getElem?
  intro i
  simp only [List.getElem?_map, List.getElem?_replicate]
  by_cases h : i < n
  · simp [h]
  · simp [h]
theorem numCells_next (x n k : Nat) (hk : k < n) : (numCells x n k).set (n - 1 - k) (.int .u8 ((x / 2 ^ (8 * k) % 256 : Nat) : Int)) = numCells x n (k + 1) := by
  unfold numCells
  apply List.ext_getElem?
  intro i
  rw [List.getElem?_set]
  by_cases hi : n - 1 - k = i
  · subst hi
    rw [if_pos rfl, if_pos (by simp; omega)]
    rw [List.getElem?_map, List.getElem?_eq_getElem (by simp; omega)]
    simp only [List.getElem_range, Option.map_some]
    rw [if_pos (by omega), show n - 1 - (n - 1 - k) = k by omega]
  · rw [if_neg hi, List.getElem?_map, List.getElem?_map]
    by_cases h : i < n
    · rw [List.getElem?_eq_getElem (by simpa using h)]
      simp only [List.getElem_range, Option.map_some]
      by_cases h2 : n - 1 - i < k
      · rw [if_pos h2, if_pos (by omega)]
      · rw [if_neg h2, if_neg (by omega)]
    · rw [List.getElem?_eq_none (by simpa using h)]; rfl
theorem numCells_be4 (x : Nat) : numCells x 4 4 = cellsB (be4 x) := by
  simp [numCells, cellsB, be4, List.range, List.range.loop]
theorem numCells_be8 (x : Nat) : numCells x 8 8 = cellsB (be8 x) := by
  simp [numCells, cellsB, be8, List.range, List.range.loop]

set_option maxRecDepth 100000 in
theorem number_cells (x n : Nat) (w : World) (hn : 0 < n) (hn8 : n ≤ 8) : Calls Try.prog 83 #[.int .u64 x, .int .i64 n] w fun e w' => ∃ g, e = .returned (.slice (some ⟨g, 0, none⟩) n n) ∧ w.heap.size ≤ g ∧ w'.heap[g]? = some (.cells (numCells x n n).toArray 5 (0, 0)) ∧ Ext w w' := by
  go_enter Try.func83, Try.ntmps83
  go_wp2_with (at_make; refine wpList_make_bytes rfl _ _ rfl n rfl rfl (by omega) ?_)
  intro w1 hcur hx1
  rw [show Array.replicate n (Value.int .u8 0) = (numCells x n 0).toArray by rw [numCells_zero]; simp] at hcur
  have HC := Lib.hid hcur
  have HX := Lib.hid hx1
  clear hcur hx1
  go_wp2_with fail
  go_loopw [10] (fun u wr => ∃ k : Nat, k ≤ n ∧ u = .int .i64 k ∧ Hid (wr.heap[w.heap.size]? = some (.cells (numCells x n k).toArray 5 (0, 0)) ∧ GrownBy w1 wr (some w.heap.size))) (fun u _ => n - (intOf u).toNat)
  case atStart => exact ⟨0, Nat.zero_le _, rfl, HC.out, GrownBy.of_ext _ (Ext.refl w1)⟩
  case round =>
    obtain ⟨k, hk, rfl, HR⟩ := hrel
    by_cases hlt : k < n
    · obtain ⟨hh, hgr⟩ := HR.out
      obtain ⟨v, hv⟩ : ∃ v, (numCells x n k)[n - 1 - k]? = some v := ⟨_, List.getElem?_eq_getElem (by simp [numCells]; omega)⟩
      have f0 : wr.cell? ⟨w.heap.size, n - 1 - k, none⟩ = some v := by rw [cell_of_row _ _ _ _ _ _ hh]; simpa using hv
      have f1 : wr.frozen? ⟨w.heap.size, n - 1 - k, none⟩ = false := frozen_of_row _ _ _ _ _ hh
      clear hh hgr hv
      go_wp2_with fail
      go_roundw
      case rel =>
        obtain ⟨hh, hgr⟩ := HR.out
        refine ⟨k + 1, by omega, by go_num, ?_, hgr.trans (GrownBy.setCell wr w.heap.size (n - 1 - k) _)⟩
        rw [heap_setCell_at hh, ← numCells_next x n k hlt]
        congr 2
        rw [List.setIfInBounds_toArray]
        congr 2
      case measure => simp [intOf]; omega
    · have hke : k = n := by omega
      subst hke
      obtain ⟨hh, hgr⟩ := HR.out
      have hx : Ext w wr := ⟨HX.out.toBelow.trans ⟨hgr.os, hgr.tape, hgr.output, hgr.size, fun b hb => hgr.block b (Nat.lt_of_lt_of_le hb HX.out.size) (fun e => by injection e with e; omega)⟩, Nat.le_trans HX.out.drawn hgr.drawn⟩
      have HH := Lib.hid hh
      have HX2 := Lib.hid hx
      clear hh hgr hx
      go_wp2_with fail
      go_ret
      exact ⟨w.heap.size, rfl, Nat.le_refl _, HH.out, HX2.out⟩
theorem row_whole {w : World} {g : Nat} {base : Nat} {bs : List UInt8} (hg : base ≤ g) (h : w.heap[g]? = some (.cells (cellsB bs).toArray 5 (0, 0))) (hl : bs.length ≤ 1048576) : ByteRow base w (.slice (some ⟨g, 0, none⟩) bs.length bs.length) bs :=
  ⟨by rw [cellsB_length, Nat.mul_one], .inr ⟨g, bs.length, _, rfl, hg, h, Nat.le_refl _, by rw [maxLen_eq]; omega, by simp [cellsB_length], by rw [Nat.mul_one]; exact List.take_of_length_le (by rw [cellsB_length]; exact Nat.le_refl _)⟩⟩
/-- four bytes, eight bytes -/
theorem number4_ok (x : Nat) (w : World) : Calls Try.prog 83 #[.int .u64 x, .int .i64 4] w fun e w' => ∃ o', e = .returned o' ∧ ByteRow w.heap.size w' o' (be4 x) ∧ Ext w w' :=
  (number_cells x 4 w (by omega) (by omega)).mono fun _ _ ⟨g, e, hg, hh, hx⟩ => ⟨_, e, row_whole (bs := be4 x) hg (by rw [← numCells_be4]; exact hh) (by simp [be4]), hx⟩
theorem number8_ok (x : Nat) (w : World) : Calls Try.prog 83 #[.int .u64 x, .int .i64 8] w fun e w' => ∃ o', e = .returned o' ∧ ByteRow w.heap.size w' o' (be8 x) ∧ Ext w w' :=
  (number_cells x 8 w (by omega) (by omega)).mono fun _ _ ⟨g, e, hg, hh, hx⟩ => ⟨_, e, row_whole (bs := be8 x) hg (by rw [← numCells_be8]; exact hh) (by simp [be8]), hx⟩

set_option maxRecDepth 100000 in
theorem text_okP (s : ByteArray) (w : World) (hs : s.size ≤ 35184372088832) : Calls Try.prog 84 #[.string s] w fun e w' => ∃ o', e = .returned o' ∧ ByteRow w.heap.size w' o' (txt s) ∧ Ext w w' := by
  go_enter Try.func84, Try.ntmps84
  go_wp2_with fail
  refine (number4_ok s.size _).mono ?_
  rintro e w1 ⟨o1, rfl, hrow, hx⟩
  have HRow := Lib.hid hrow
  have HX := Lib.hid hx
  clear hrow hx
  go_wp2_with (at_builtin; refine wpList_append_str rfl (.tmp 6) (.tmp 7) rfl w.heap.size o1 (be4 s.size) rfl HRow.out s rfl (by rw [be4_length]; omega) HX.out.size ?_)
  intro o2 w2 hrow2 hput
  have HRow2 := Lib.hid hrow2
  have HX2 := Lib.hid (ext_grown HX.out HRow.out hput.grown)
  clear hrow2 hput
  go_wp2_with fail
  go_ret
  exact ⟨_, rfl, HRow2.out, HX2.out⟩
end Go.Proofs.Ytpkgkabcikmopaa
