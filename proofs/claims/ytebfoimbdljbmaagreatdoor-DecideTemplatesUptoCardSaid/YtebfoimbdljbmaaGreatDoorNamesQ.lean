/-
  The names of a map, rising, as the program tells them: of a map of at most one. The conditions: the map lies in memory as it should, and has no more than one.
-/
import Derived.Test.YtebfoimbdljbmaaGreatDoorSort1Q
namespace Go.Proofs.YtebfoimbdljbmaaGreatDoor
open Go.RowKit Go.Shelf Go.Maps
set_option maxRecDepth 100000
set_option maxHeartbeats 4000000
def KeysPost (m : ByteArray → Bool) (cnt lo : Nat) (w : World) (e : Ending) (w' : World) : Prop := ∃ v ss, e = .returned v ∧ (ss.Nodup ∧ (∀ x : FStr, x ∈ ss ↔ m x.1 = true) ∧ ss.length ≤ cnt) ∧ w'.ownsRow lo 9 1 v ss.length (strsF ss) ∧ Ext w w'
theorem collectS_ok (Bm b : Nat) (m : ByteArray → Bool) (cnt : Nat) (w : World) (hBm : Bm < w.heap.size) (hm : w.cell? ⟨Bm, 0, none⟩ = some (.map (some b))) (hown : MapS w b m cnt) (hcnt : cnt ≤ 1048576) :
  Calls Tryz.prog 116 #[.func (.func 118) #[] #[.pointer (some ⟨Bm, 0, none⟩)]] w (KeysPost m cnt w.heap.size w) := by
 have HC := Lib.hid (callsIn_wide.1 (appS_in Bm b m cnt w hBm hm hown hcnt))
 go_enter Tryz.func116, Tryz.ntmps116
 go_wp2_with fail
 refine HC.out.mono ?_
 rintro e w' ⟨v, ss, rfl, h1, h2, hx⟩
 have H1 := Lib.hid h1
 have H2 := Lib.hid h2
 have HX := Lib.hid hx
 clear h1 h2 hx
 go_wp2_with fail
 go_ret
 exact ⟨v, ss, rfl, H1.out, H2.out, HX.out⟩
theorem sorted1_ok (Bm b : Nat) (m : ByteArray → Bool) (cnt : Nat) (w : World) (hBm : Bm < w.heap.size) (hm : w.cell? ⟨Bm, 0, none⟩ = some (.map (some b))) (hown : MapS w b m cnt) (hcnt : cnt ≤ 1) :
  Calls Tryz.prog 82 #[.func (.func 118) #[] #[.pointer (some ⟨Bm, 0, none⟩)]] w (KeysPost m cnt w.heap.size w) := by
 have HC := Lib.hid (collectS_ok Bm b m cnt w hBm hm hown (by omega))
 go_enter Tryz.func82, Tryz.ntmps82
 go_wp2_with fail
 refine HC.out.mono ?_
 rintro e w' ⟨v, ss, rfl, h1, h2, hx⟩
 obtain ⟨A, c, rfl⟩ := zap h2
 have H1 := Lib.hid h1
 have H2 := Lib.hid h2
 have HX := Lib.hid hx
 have HS := Lib.hid (sort1_ok A c ss.length (by have := h1.2.2; omega) w')
 clear h1 h2 hx
 go_wp2_with fail
 refine HS.out.mono ?_
 rintro e w2 ⟨⟨u, rfl⟩, rfl⟩
 go_wp2_with fail
 go_ret
 exact ⟨_, ss, rfl, H1.out, H2.out, HX.out⟩
theorem names1_ok (b : Nat) (m : ByteArray → Bool) (cnt : Nat) (w : World) (hown : MapS w b m cnt) (hcnt : cnt ≤ 1) :
  Calls Tryz.prog 49 #[.map (some b)] w (KeysPost m cnt w.heap.size w) := by
 have HK := Lib.hid (callsIn_wide.1 (keysS_in Fence.wide 2 trivial rfl b w))
 have HX0 := Lib.hid ((Ext.refl w).alloc (.cells #[.map (some b)] 102))
 have HC := Lib.hid (sorted1_ok w.heap.size b m cnt (w.alloc (.cells #[.map (some b)] 102)) (by simp) (cell_of_row _ _ 0 _ _ _ (heap_alloc_new _ _)) (hown.ext HX0.out) hcnt)
 go_enter Tryz.func49, Tryz.ntmps49
 go_wp2_with fail
 refine HK.out.mono ?_
 rintro e w1 ⟨rfl, rfl⟩
 go_wp2_with fail
 refine HC.out.mono ?_
 rintro e w' ⟨v, ss, rfl, h1, h2, hx⟩
 have H1 := Lib.hid h1
 have H2 := Lib.hid h2
 have HX := Lib.hid (HX0.out.trans hx)
 clear h1 h2 hx
 go_wp2_with fail
 go_ret
 exact ⟨v, ss, rfl, H1.out, ownsRow_base H2.out (by simp), HX.out⟩
end Go.Proofs.YtebfoimbdljbmaaGreatDoor
