/-
  Two answers of the fourteenth layer compared; what a crowd of entities comes to. The conditions: what is handed in lies in memory as it should.
-/
import Derived.Test.YtebfoimbdljbmaaGreatDoorGb
import Derived.Test.YtebfoimbdljbmaaGreatDoorEvGQ
import Derived.Test.YtebfoimbdljbmaaGreatDoorGq
import Derived.Test.YtebfoimbdljbmaaGreatDoorGf
import Derived.Test.YtebfoimbdljbmaaGreatDoorGl
namespace Go.Proofs.YtebfoimbdljbmaaGreatDoor
open Go.RowKit
open Lib renaming hid → q_
set_option maxRecDepth 100000
set_option maxHeartbeats 4000000
theorem crowd_canon {l : List Ent} (h : CrowdE l) : (∀ x ∈ (za7 l).1, x.av.dep ≤ 1000) ∧ ∀ x ∈ (za7 l).1, x.av.Is := by
 by_cases hg : Good l
 ·exact ⟨fun x hx => by have := (canonE_small hg (M := 20) (D := 57) (fun e he => (h.each e he).1) (fun e he => (h.each e he).2)).2 x hx; omega, fun x hx => by
   obtain ⟨e, he, rfl⟩ := (canonE_mem hg x).1 hx
   exact canon_is (hg.ones e he).2.1⟩
 ·rw [canonE_bad hg]; simp
theorem same14_ok (z : Val) (er : Int) (S : Nat → Prop) (w : World) (ca cb : List Value) (hS : ∀ b, S b → b < w.heap.size) (ha : Val.At S w z ca) (hb : Val.At S w z cb) :
  Calls Tryz.prog 18 #[.agg ca.toArray, .agg cb.toArray, .int .i64 er, .int .i64 er] w fun e w' => e = .returned (.bool true) ∧ Ext w w' := by
 obtain ⟨zk, zb, zn, zs, zt, zu, zi, zm⟩ := z
 have HA := q_ ha
 have HB := q_ hb
 obtain ⟨aA, ac, aB, ad, rfl⟩ := ha.opened
 obtain ⟨bA, bc, bB, bd, rfl⟩ := hb.opened
 obtain ⟨p0, p1, ps, px⟩ := zdr w (.cells #[.int .i64 zk, .bool zb, .int .i64 zn, .string zs, .string zt, .string zu, .slice aA zi.length ac, .slice aB zm.length ad] 27) (.cells #[.int .i64 zk, .bool zb, .int .i64 zn, .string zs, .string zt, .string zu, .slice bA zi.length bc, .slice bB zm.length bd] 27)
 have HC := q_ (whole_ok (SizeOf.sizeOf (Val.mk zk zb zn zs zt zu zi zm)) (Val.mk zk zb zn zs zt zu zi zm) (Val.mk zk zb zn zs zt zu zi zm) S _ _ _ (Nat.le_refl _) (fun b hb => Nat.lt_of_lt_of_le (hS b hb) px.size) (Val.At.alike (Alike.of_ext px hS) _ _ HA.out) (Val.At.alike (Alike.of_ext px hS) _ _ HB.out))
 have HA0 := q_ p0
 have HB0 := q_ p1
 have HX0 := q_ px
 rw [show eqB (Val.mk zk zb zn zs zt zu zi zm) (Val.mk zk zb zn zs zt zu zi zm) = true by simp [eqB]] at HC
 clear p0 p1 ps px ha hb hS HA HB
 go_enter Tryz.func18, Tryz.ntmps18
 go_wp2_with (first | (with_reducible refine zaw ?_; refine zab rfl 27 _ rfl w.heap.size 0 rfl zae zaa (cs := [.int .i64 zk, .bool zb, .int .i64 zn, .string zs, .string zt, .string zu, .slice aA zi.length ac, .slice aB zm.length ad]) rfl (zak HA0.out) ?_) | (with_reducible refine zaw ?_; refine zab rfl 27 _ rfl (w.heap.size + 1) 0 rfl zae zaa (cs := [.int .i64 zk, .bool zb, .int .i64 zn, .string zs, .string zt, .string zu, .slice bA zi.length bc, .slice bB zm.length bd]) rfl (zak HB0.out) ?_))
 refine HC.out.mono ?_
 rintro e1 w1 ⟨rfl, hx1⟩
 have HX1 := q_ (HX0.out.trans hx1)
 clear hx1 HC
 go_wp2_with fail
 go_ret
 exact ⟨rfl, HX1.out⟩
end Go.Proofs.YtebfoimbdljbmaaGreatDoor
