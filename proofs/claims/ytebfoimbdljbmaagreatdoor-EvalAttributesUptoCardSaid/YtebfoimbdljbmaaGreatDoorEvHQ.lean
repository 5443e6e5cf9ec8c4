/-
  Whether a scope takes an entity, as the program has it. The conditions: what is handed in lies in memory as it should.
-/
import Derived.Test.YtebfoimbdljbmaaGreatDoorEvGQ
import Derived.Test.YtebfoimbdljbmaaGreatDoorScpQ
namespace Go.Proofs.YtebfoimbdljbmaaGreatDoor
open Go.RowKit
open Lib renaming hid → q_
set_option linter.unusedVariables false
set_option maxRecDepth 100000
set_option maxHeartbeats 4000000
def HoldsAns (r : Bool × Int) (w : World) : Ending → World → Prop := fun e w' => e = .returned (.tuple #[.bool r.1, .int .i64 r.2]) ∧ Ext w w'
theorem holds_n_3f {c : List Ent} (ty d1 d2 u1 u2 : ByteArray) (l : List Uid) (lA : Option Addr) (lc : Nat) (w : World) (hu : FitU (u1, u2)) (hd : FitU (d1, d2)) (hst : StoreV w (.pointer none) c) (hl : uidR.RowsAt (fun b => b < w.heap.size) w l (.slice lA l.length lc)) :
  Calls Tryz.prog 20 #[.agg ([.int .i64 3, .string ty, .string d1, .string d2, .bool false, .slice lA l.length lc] : List Value).toArray, .agg #[.string u1, .string u2], (.pointer none)] w (HoldsAns ((Scp.mk 3 ty (d1, d2) false l).holds c (u1, u2)) w) := by
 obtain ⟨res, hres⟩ : ∃ res, (Scp.mk 3 ty (d1, d2) false l).holds c (u1, u2) = res := ⟨_, rfl⟩
 rw [hres]
 obtain ⟨p0, p1, p2, ps, px⟩ := zdn w (.cells #[.int .i64 3, .string ty, .string d1, .string d2, .bool false, .slice lA l.length lc] 52) (.cells #[.string u1, .string u2] 23) (.cells #[(.pointer none)] 42)
 have HP0 := q_ p0
 have HU0 := q_ p1
 have HS0 := q_ p2
 have HX0 := q_ px
 clear p0 p1 p2 ps px
 have HDc := q_ (zcd (pre := [.int .i64 3, .string ty]) (cs := [.string d1, .string d2]) (r := [.bool false, .slice lA l.length lc]) HP0.out)
 have hq := bytes_dec u1 ty
 obtain ⟨r, hr⟩ : ∃ r, (u1.toList == ty.toList) = r := ⟨_, rfl⟩
 rw [hr] at hq
 have hh : res = (r, 0) := by rw [← hres, ← hq]; unfold Scp.holds; simp
 subst hh
 clear hres hu hd hst hl hq
 go_enter Tryz.func20, Tryz.ntmps20
 go_wp2_with (first | (with_reducible refine zaw ?_; refine zab rfl 23 _ rfl (w.heap.size + 1) 0 rfl zbh za6 (cs := [.string u1, .string u2]) rfl (zak HU0.out) ?_) | (with_reducible refine zaw ?_; refine zab rfl 23 _ rfl w.heap.size 2 rfl zbh za6 (cs := [.string d1, .string d2]) rfl HDc.out ?_))
 go_ret2
 exact ⟨rfl, HX0.out⟩
end Go.Proofs.YtebfoimbdljbmaaGreatDoor
