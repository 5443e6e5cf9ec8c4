/-
  A region that draws its order: values, a call that makes memory, what it gives parted, stored and assigned. The conditions: none (lemmas).
-/
import Derived.Test.YtebfoimbdljbmaaGreatDoorEvEQ
namespace Go.Proofs.YtebfoimbdljbmaaGreatDoor
open Go.RowKit
def CallJ (w0 : World) (R lo c : Nat) (vs : List Value) (z : Val) (ez : Int) (L : Nat → Bool) (xs : List Value) (W : World) : Prop := ∃ cv : List Value, GrownBy w0 W (some R) ∧
 (∀ i, i < c → L i = true → xs.getD i undef = vs.getD i undef) ∧
 (L c = true → xs.getD c undef = .tuple #[.agg cv.toArray, .int .i64 ez] ∧ Val.At (fun b => lo ≤ b ∧ b < W.heap.size) W z cv) ∧
 (L (c + 1) = true → xs.getD (c + 1) undef = .agg cv.toArray) ∧ (L (c + 2) = true → xs.getD (c + 2) undef = .int .i64 ez) ∧ (L (c + 4) = true → xs.getD (c + 4) undef = .int .i64 ez) ∧
 (L (c + 3) = false → W.heap[R]? = some (.cells zeroCells.toArray 27 (0, 0))) ∧ (L (c + 3) = true → W.heap[R]? = some (.cells cv.toArray 27 (0, 0)))
section
variable {w0 : World} {R lo c : Nat} {vs : List Value} {z : Val} {ez : Int} {L : Nat → Bool} {xs : List Value} {W : World}
theorem CallJ.congr {L' : Nat → Bool} (n : Nat) (hn : c + 5 = n) (he : ∀ i, i < n → L i = L' i) (h : CallJ w0 R lo c vs z ez L xs W) : CallJ w0 R lo c vs z ez L' xs W := by
 obtain ⟨cv, hx, hp, h5, h6, h7, h9, hz, hc⟩ := h
 exact ⟨cv, hx, fun i hi k => hp i hi (by rwa [he i (by omega)]), fun k => h5 (by rwa [he c (by omega)]), fun k => h6 (by rwa [he _ (by omega)]), fun k => h7 (by rwa [he _ (by omega)]), fun k => h9 (by rwa [he _ (by omega)]), fun k => hz (by rwa [he _ (by omega)]), fun k => hc (by rwa [he _ (by omega)])⟩
theorem CallJ.call (h : CallJ w0 R lo c vs z ez L xs W) (hl : xs.length = c + 5) (h1 : L (c + 1) = false) (h2 : L (c + 2) = false) (h3 : L (c + 3) = false) (h4 : L (c + 4) = false) {W' : World} (hx' : Ext W W') {cv : List Value} (hv : Val.At (fun b => lo ≤ b ∧ b < W'.heap.size) W' z cv) :
  CallJ w0 R lo c vs z ez (done L c) (xs.set c (.tuple #[.agg cv.toArray, .int .i64 ez])) W' := by
 obtain ⟨cv0, hx, hp, h5, h6, h7, h9, hz, hc⟩ := h
 refine ⟨cv, hx.trans (GrownBy.of_ext _ hx'), fun j hj k => ?_, fun _ => ⟨?_, hv⟩, fun k => ?_, fun k => ?_, fun k => ?_, fun _ => ?_, fun k => ?_⟩
 ·rw [getD_ne (by omega)]; exact hp j hj (by rwa [zbn (by omega)] at k)
 ·rw [getD_at (by omega)]
 ·rw [zbn (by omega), h1] at k; cases k
 ·rw [zbn (by omega), h2] at k; cases k
 ·rw [zbn (by omega), h4] at k; cases k
 ·exact (hx'.block _ (zaf (hz h3))).trans (hz h3)
 ·rw [zbn (by omega), h3] at k; cases k
theorem CallJ.store (h : CallJ w0 R lo c vs z ez L xs W) (hR : R < lo) (k5 : L c = true) (k6 : L (c + 1) = true) (k8 : L (c + 3) = false) : ∃ cv : List Value, xs.getD (c + 1) undef = .agg cv.toArray ∧ cv.length = 8 ∧ (∀ v ∈ cv, v.oneCell' = true) ∧ W.heap[R]? = some (.cells zeroCells.toArray 27 (0, 0)) ∧
  ∀ u, CallJ w0 R lo c vs z ez (done L (c + 3)) (xs.set (c + 3) u) (W.setRow R cv.toArray) := by
 obtain ⟨cv, hx, hp, h5, h6, h7, h9, hz, hc⟩ := h
 have hsz : (W.setRow R cv.toArray).heap.size = W.heap.size := by simp [World.setRow]
 have hg := GrownBy.setRow W R cv.toArray
 refine ⟨cv, h6 k6, (h5 k5).2.length, (h5 k5).2.one, hz k8, fun u => ⟨cv, hx.trans hg, fun j hj k => ?_, fun k => ?_, fun k => ?_, fun k => ?_, fun k => ?_, fun k => ?_, fun _ => zbq (hz k8) _⟩⟩
 ·rw [getD_ne (by omega)]; exact hp j hj (by rwa [zbn (by omega)] at k)
 ·rw [getD_ne (by omega)]
  exact ⟨(h5 k5).1, by rw [hsz]; exact Val.At.alike (fun b hb => hg.block b hb.2 (fun e => by injection e with e; have := hb.1; omega)) _ _ (h5 k5).2⟩
 ·rw [getD_ne (by omega)]; exact h6 (by rwa [zbn (by omega)] at k)
 ·rw [getD_ne (by omega)]; exact h7 (by rwa [zbn (by omega)] at k)
 ·rw [getD_ne (by omega)]; exact h9 (by rwa [zbn (by omega)] at k)
 ·rw [done_self] at k; cases k
end
end Go.Proofs.YtebfoimbdljbmaaGreatDoor
