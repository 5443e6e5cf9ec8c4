/-
  Whether a scope takes an entity, as the program has it. The conditions: what is handed in lies in memory as it should.
-/
import Derived.Test.YtebfoimbdljbmaaDoorEvGQ
import Derived.Test.YtebfoimbdljbmaaDoorScpQ
namespace Go.Proofs.YtebfoimbdljbmaaDoor
open Go.RowKit
def HoldsAns (r : Bool × Int) (w : World) : Ending → World → Prop := fun e w' => e = .returned (.tuple #[.bool r.1, .int .i64 r.2]) ∧ Ext w w'
set_option linter.unusedVariables false in
set_option maxRecDepth 100000 in
set_option maxHeartbeats 4000000 in
theorem holds_n_3f {c : List Ent} (ty d1 d2 u1 u2 : ByteArray) (l : List Uid) (lA : Option Addr) (lc : Nat) (w : World) (hu : FitU (u1, u2)) (hd : FitU (d1, d2)) (hst : StoreV w (.pointer none) c) (hl : uidR.RowsAt (fun b => b < w.heap.size) w l (.slice lA l.length lc)) :
    Calls Tryd.prog 8 #[.agg ([.int .i64 3, .string ty, .string d1, .string d2, .bool false, .slice lA l.length lc] : List Value).toArray, .agg #[.string u1, .string u2], (.pointer none)] w (HoldsAns ((Scp.mk 3 ty (d1, d2) false l).holds c (u1, u2)) w) := by
  obtain ⟨res, hres⟩ : ∃ res, (Scp.mk 3 ty (d1, d2) false l).holds c (u1, u2) = res := ⟨_, rfl⟩
  rw [hres]
  obtain ⟨p0, p1, p2, ps, px⟩ := heapA3 w (.cells #[.int .i64 3, .string ty, .string d1, .string d2, .bool false, .slice lA l.length lc] 48) (.cells #[.string u1, .string u2] 24) (.cells #[(.pointer none)] 49)
  have HP0 := Lib.hid p0
  have HU0 := Lib.hid p1
  have HS0 := Lib.hid p2
  have HX0 := Lib.hid px
  clear p0 p1 p2 ps px
  have HDc := Lib.hid (cells_mid (pre := [.int .i64 3, .string ty]) (cs := [.string d1, .string d2]) (r := [.bool false, .slice lA l.length lc]) HP0.out)
  have hq := bytes_dec u1 ty
  obtain ⟨r, hr⟩ : ∃ r, (u1.toList == ty.toList) = r := ⟨_, rfl⟩
  rw [hr] at hq
  have hh : res = (r, 0) := by rw [← hres, ← hq]; unfold Scp.holds; simp
  subst hh
  clear hres hu hd hst hl hq
  go_enter Tryd.func8, Tryd.ntmps8
  go_wp2_with (first | (with_reducible refine at_load ?_; refine wpList_load_cells rfl 24 _ rfl (w.heap.size + 1) 0 rfl Tryd.agg23 Tryd.size23 (cs := [.string u1, .string u2]) rfl (cells_of_row HU0.out) ?_) | (with_reducible refine at_load ?_; refine wpList_load_cells rfl 24 _ rfl w.heap.size 2 rfl Tryd.agg23 Tryd.size23 (cs := [.string d1, .string d2]) rfl HDc.out ?_))
  go_ret2
  exact ⟨rfl, HX0.out⟩
end Go.Proofs.YtebfoimbdljbmaaDoor
