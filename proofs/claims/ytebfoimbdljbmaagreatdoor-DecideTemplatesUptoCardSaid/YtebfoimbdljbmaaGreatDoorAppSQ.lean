/-
  A map's keys that are texts, laid in a row of their own. The conditions: the map lies in memory as it should.
-/
import Derived.Test.YtebfoimbdljbmaaGreatDoorAboveFQ
import Derived.Test.YtebfoimbdljbmaaGreatDoorKeysSQ
namespace Go.Proofs.YtebfoimbdljbmaaGreatDoor
open Go.RowKit Go.Shelf Go.Maps
set_option maxRecDepth 100000
set_option maxHeartbeats 4000000
attribute [local go_sem] Oper.semAt_some
def strsF (pre : List FStr) : List Value := pre.map fun x => .string x.1
structure KeyRow (w : World) (pre : List FStr) (W : World) : Prop where
 row : ∃ v, Boxed W w.heap.size 25 v ∧ W.ownsRow w.heap.size 9 1 v pre.length (strsF pre)
 ext : Ext w W
theorem KeyRow.own {w : World} {B : Nat} (hB : w.heap.size ≤ B) : OwnG B (KeyRow w) := fun pre W W' row h hg hr => by
 have hne : ∀ {b : Nat} {cs : Array Value} {T : TypeId}, W.heap[b]? = some (.cells cs T (0, 0)) → some b ≠ row := fun hb e => by
  obtain ⟨_, o, ho, hc⟩ := hr _ e.symm
  rw [hb] at ho
  cases ho
  cases hc
 obtain ⟨v, hv, hrow⟩ := h.row
 exact ⟨⟨v, (hg.block _ (zaf hv) (hne hv)).trans hv, own_kept hrow hg fun r e => (hr r e).2⟩, zak h.ext hg fun b e => Nat.le_trans hB (hr b e).1⟩
theorem KeyRow.new {w : World} {pre : List FStr} {W : World} (h : KeyRow w pre W) (o : Obj) : KeyRow w pre (W.alloc o) := KeyRow.own (Nat.le_refl _) pre W _ none h (GrownBy.alloc W o) fun r e => by cases e
theorem appS_in (Bm b : Nat) (m : ByteArray → Bool) (cnt : Nat) (w : World) (hBm : Bm < w.heap.size) (hm : w.cell? ⟨Bm, 0, none⟩ = some (.map (some b))) (hown : MapS w b m cnt) (hcnt : cnt ≤ 1048576) :
  CallsIn Fence.wide 3 Tryz.prog 159 #[.slice none 0 0, .func (.func 118) #[] #[.pointer (some ⟨Bm, 0, none⟩)]] w fun e w' => ∃ v ss, e = .returned v ∧ (ss.Nodup ∧ (∀ x : FStr, x ∈ ss ↔ m x.1 = true) ∧ ss.length ≤ cnt) ∧ w'.ownsRow w.heap.size 9 1 v ss.length (strsF ss) ∧ Ext w w' := by
 have h1 : 1 ≤ 3 := by omega
 refine callsIn_of_wp_marks Tryz.func159 rfl trivial ?_ rfl
 simp only [Tryz.ntmps159, List.size_toArray, List.length_cons, List.length_nil, Nat.reduceAdd, Nat.reduceSub, Array.replicate_succ, Array.replicate_zero, List.push_toArray, List.append_toArray, List.nil_append, List.cons_append]
 gi_wp2_with fail
 obtain ⟨W0, hW0⟩ : ∃ W0, W0 = w.alloc (.cells #[.slice none 0 0] 25) := ⟨_, rfl⟩
 have HQ1 := Lib.hid (show W0.heap[w.heap.size]? = some (.cells #[.slice none 0 0] 25 (0, 0)) by rw [hW0]; exact heap_alloc_new _ _)
 have HQX := Lib.hid (show Ext w W0 by rw [hW0]; exact (Ext.refl w).alloc _)
 have HQS := Lib.hid (show W0.heap.size = w.heap.size + 1 by rw [hW0]; simp)
 have HMp0 := Lib.hid (hown.ext HQX.out)
 have HMc := Lib.hid (HQX.out.cell hm)
 rw [← hW0]
 clear hW0
 obtain ⟨i0, hi0, hz0, hz1, hz2⟩ := info_parts Tryz.info9
 refine wpIn_range_seq rfl h1 (gf := 118) (lb := #[.pointer (some ⟨Bm, 0, none⟩)]) rfl trivial (enters_of Tryz.func118 (by kernel_rfl) rfl)
  (keysS_seq Fence.wide 2 trivial rfl (by omega) Bm b m cnt W0 (by have := HQS.out; omega) HMc.out HMp0.out) (Below.refl _ _) (fun _ => rfl)
  (KeyRow w) (KeyRow.own (by have := HQS.out; omega)) ⟨⟨_, HQ1.out, World.ownsRow_nil _ _ _ _⟩, HQX.out⟩
  (fun x a' W => a' = { tmps := #[.slice none 0 0, .func (.func 118) #[] #[.pointer (some ⟨Bm, 0, none⟩)], .pointer (some ⟨w.heap.size, 0, none⟩), undef, .slice none 0 0, .string x.1, .func (.func 118) #[] #[.pointer (some ⟨Bm, 0, none⟩)], .string x.1, undef, undef, undef, undef, undef], defers := [] })
  (fun x a' s W W' row h hg hr => h) ?assign ?body ?done
 case assign =>
  intro l pre x W K hi hK
  gi_wp2
  exact hK _ _ (KeepsFrom.refl _ _) (KeepsWalks.refl _) hi rfl
 case body =>
  rintro l pre x a' W hi rfl hlt
  obtain ⟨v, hv, hrow⟩ := hi.row
  have cv := hv.cell
  have Hi := Lib.hid hi
  have Hv := Lib.hid hv
  have HRow := Lib.hid hrow
  have Hlt := Lib.hid hlt
  have Hlo := Lib.hid (show w.heap.size < W.heap.size from zaf hv)
  clear hi hv hrow hlt
  gi_wp2_with (first
   | (gi_at_builtin; refine wpListIn_append_at rfl (.tmp 8) (.tmp 10) 25 rfl w.heap.size 9 i0 _ 1 16 Tryz.underlying25 hi0 hz0 hz1 hz2 rfl (by decide) v _ _ rfl (HRow.out.alloc _) W.heap.size 0 1 1 [.string x.1] rfl rfl (cellsAt_new _ _ rfl) (by simp [Value.oneCell']) (by have h2 := Hlt.out; rw [zat]; omega) (by have h2 := Hlt.out; omega) (Nat.le_trans (Nat.le_of_lt Hlo.out) (by simp)) ?_; intro v' w1 hown' hgrow; obtain ⟨g', cap', rfl⟩ := ownsRow_succ hown'; obtain ⟨hv1, hv2, hr2, hk2, hb2⟩ := Hv.out.appended (by decide) HRow.out (Nat.le_of_lt Hlo.out) (Nat.le_refl _) hown' hgrow.togrownBy; have hc1 := hv1.cell; have hf1 := hv1.frozen; have Hown := Lib.hid hown'; have Hgr := Lib.hid hgrow; clear hown' hgrow)
   | gi_in)
  refine ⟨rfl, hk2.from _, hk2.walks, ⟨⟨_, hv2, ?_⟩, ?_⟩⟩
  ·rw [List.length_append, strsF, List.map_append]
   exact hr2
  ·refine zak (zak (Hi.out.ext.alloc _) Hgr.out fun b e => ?_) ⟨grownBy_setCell' w1 _ _, Nat.le_refl _⟩ fun b e => by injection e with e; omega
   exact (HRow.out.lt _ e).1
 case done =>
  rintro D ys W hD hys hi hK
  obtain ⟨v, hv, hrow⟩ := hi.row
  obtain ⟨A6, c6, rfl⟩ := zap hrow
  have cv := hv.cell
  have HRow := Lib.hid hrow
  have Hi := Lib.hid hi
  have HK := Lib.hid hK
  have HYs := Lib.hid hys
  clear hv hrow hi hK hys
  gi_wp2_with fail
  refine ⟨by simp, .inl ⟨_, _, rfl, run_takeDeferred HK.out, ?_⟩⟩
  exact ⟨_, results_tmp rfl _ _ _, .slice A6 ys.length c6, ys, rfl, HYs.out, ownsRow_putObj HRow.out _ HK.out rfl, zak Hi.out.ext (GrownBy.putObj W D _) fun b e => by cases e; have := HQS.out; omega⟩
end Go.Proofs.YtebfoimbdljbmaaGreatDoor
