/-
  The library's function that hands on a map's keys, for maps from texts to truths. The conditions: the map lies in memory as it should.
-/
import Derived.Test.YtebfoimbdljbmaaGreatDoorMapSQ
import Derived.Test.YtebfoimbdljbmaaGreatDoorKeysPQ
namespace Go.Proofs.YtebfoimbdljbmaaGreatDoor
open Go.RowKit Go.Shelf Go.Maps
set_option maxRecDepth 100000
set_option maxHeartbeats 1000000
theorem RangeS.walks {w w' : World} {b r : Nat} {m left : ByteArray → Bool} {cnt : Nat} (h : RangeS w b r m left cnt) (k : KeepsWalks w w') : RangeS w' b r m left cnt := by
 obtain ⟨D, n, lf, h1, h2⟩ := h
 exact ⟨D, n, lf, h1.of_walks k, h2⟩
theorem RangeS.iter {w : World} {b r : Nat} {m left : ByteArray → Bool} {cnt : Nat} (h : RangeS w b r m left cnt) : ∃ o : Obj, w.heap[r]? = some o ∧ o.isWalk = true := by
 obtain ⟨D, n, lf, h1, _⟩ := h
 exact h1.iter_walk
section
variable {F : Fence} {n : Nat} {ops : Array Oper} {rest : List Oper} {o : Oper} {a : Act} {w : World} {Q : Exit → Act → World → Prop}
theorem wpListIn_range_str (hg : o.guard = none) (x : Operand) (hop : o.op = Op.range 102 x) (b : Nat) (m : ByteArray → Bool) (cnt : Nat) (hm : a.eval x = .map (some b)) (h : MapS w b m cnt)
  (hK : ∀ w', RangeS w' b w.heap.size m m cnt → GrownBy w w' none → w'.heap.size = w.heap.size + 1 → wpListIn F n Tryz.prog ops Q rest (a.put o.dst (.pointer (some ⟨w.heap.size, 0, none⟩))) w') : wpListIn F n Tryz.prog ops Q (o :: rest) a w := by
 obtain ⟨D, nn, hown, hn, hr, hc⟩ := h
 refine wpListIn_plain hg fun K' hK' => ?_
 obtain ⟨w', hrun, r1, r2, r3⟩ := hown.range Tryz.lawS Tryz.underlying102
 unfold Oper.wpIn
 refine ⟨by simp [Oper.about, hop], ?_⟩
 rw [Oper.semAt_plain F _ _ (by rw [hop]; intro c hc'; cases hc')]
 have hdr : w.drawn ≤ w'.drawn := zb7 _ _ _ _ hrun
 simp [execOp, hop, hm, hrun, Result.andThen]
 exact hK' _ _ (hK w' ⟨D, nn, _, hc ▸ r1, hr, hr.has, hr.keys⟩ ⟨r2, hdr⟩ r3)
theorem wpListIn_next_str (hg : o.guard = none) (it : Operand) (hop : o.op = Op.next it false) (b r : Nat) (m left : ByteArray → Bool) (cnt : Nat) (hit : a.eval it = .pointer (some ⟨r, 0, none⟩)) (h : RangeS w b r m left cnt)
  (hDone : cnt = 0 → Hid (∀ p, FitS p → left p = false) → wpListIn F n Tryz.prog ops Q rest (a.put o.dst (.tuple #[.bool false])) w)
  (hMore : ∀ (p : ByteArray) (w' : World) (cnt' : Nat), FitS p → left p = true → m p = true → RangeS w' b r m (fun y => left y && !decide (y = p)) cnt' → cnt' < cnt → GrownBy w w' (some r) →
   (Instr.entry (.pointer (some ⟨r, 0, none⟩))).run Tryz.prog w' = .ok (.tuple #[.string p, .bool true]) w' → wpListIn F n Tryz.prog ops Q rest (a.put o.dst (.tuple #[.bool true, .string p, .bool true])) w') :
  wpListIn F n Tryz.prog ops Q (o :: rest) a w := by
 obtain ⟨D, nn, lf, hrg, hr, hl1, hl2⟩ := h
 refine wpListIn_plain hg fun K' hK' => ?_
 unfold Oper.wpIn
 refine ⟨by simp [Oper.about, hop], ?_⟩
 rw [Oper.semAt_plain F _ _ (by rw [hop]; intro c hc'; cases hc')]
 rcases hrg.next Tryz.lawS o.type with ⟨h0, hl, hrun⟩ | ⟨key, v, kl, y, w', cnt', hkey, hlk, hv, hat, hrun, hrg', hlt, hgr, hsz, hen⟩
 ·simp [execOp, hop, hit, hrun, Result.andThen]
  exact hK' _ _ (hDone h0 (Lib.hid fun u hu => by rw [← hl1 u hu]; exact hl _))
 ·have hdr : w.drawn ≤ w'.drawn := zb7 _ _ _ _ hrun
  obtain ⟨p, rfl, hp, rfl⟩ := str_of_key hkey
  obtain ⟨c, rfl, rfl⟩ := bool_inv hv
  have hhas : Maps.has D (litS p) = true := has_true_of_atKey hat
  rw [hr.has p hp] at hhas
  have h0 := hr.at' p hp hhas
  rw [hat] at h0
  injection h0 with h0
  injection h0 with h0
  subst h0
  simp [execOp, hop, hit, hrun, Result.andThen]
  refine hK' _ _ (hMore p w' cnt' hp (by rw [← hl1 p hp]; exact hlk) hhas ⟨D, nn, _, hrg', hr, fun y hy => ?_, fun kl hkl => hl2 kl ?_⟩ hlt ⟨hgr, hdr⟩ hen)
  ·rw [hl1 y hy, litS_same hy hp]
  ·simp only [Bool.and_eq_true] at hkl; exact hkl.1
end
abbrev FStr := { p : ByteArray // FitS p }
def ComeS (m left : ByteArray → Bool) (ss : List FStr) : Prop := ss.Nodup ∧ ∀ x : FStr, x ∈ ss ↔ m x.1 = true ∧ left x.1 = false
theorem ComeS.step {m left : ByteArray → Bool} {ss : List FStr} (h : ComeS m left ss) (p : FStr) (hl : left p.1 = true) (hm : m p.1 = true) : ComeS m (fun y => left y && !decide (y = p.1)) (ss ++ [p]) := by
 have hn : p ∉ ss := fun hp => by rw [((h.2 p).1 hp).2] at hl; cases hl
 refine ⟨(List.perm_append_singleton p ss).nodup_iff.2 (List.nodup_cons.2 ⟨hn, h.1⟩), fun x => ?_⟩
 rw [List.mem_append, h.2 x]
 by_cases he : x = p
 ·subst he; simp [hl, hm]
 ·have : x.1 ≠ p.1 := fun e => he (Subtype.ext e)
  simp [he, this]
theorem keysS_in (F : Fence) (n : Nat) (h7 : F.fn 83) (hro : F.round = none) (b : Nat) (w : World) :
  CallsIn F n Tryz.prog 83 #[.map (some b)] w fun e w' => e = .returned (.func (.func 118) #[] #[.pointer (some ⟨w.heap.size, 0, none⟩)]) ∧ w' = w.alloc (.cells #[.map (some b)] 102) := by
 refine callsIn_of_wp Tryz.func83 rfl h7 ?_ hro
 simp only [Tryz.ntmps83, List.size_toArray, List.length_cons, List.length_nil, Nat.reduceAdd, Nat.reduceSub, Array.replicate_succ, Array.replicate_zero, List.push_toArray, List.append_toArray, List.nil_append, List.cons_append]
 gi_wp2
 go_ret
 exact ⟨rfl, rfl⟩
theorem keysS1_in (F : Fence) (n : Nat) (h10 : F.fn 118) (hro : F.round = none) (hn : 1 ≤ n) (l Bm b : Nat) (m : ByteArray → Bool) (cnt : Nat) (J : List FStr → World → Prop)
  (hY : ∀ pre x W, J pre W → pre.length < cnt → YieldAt F (n - 1) Tryz.prog l #[.string x.1] W fun e W' => e = .returned (.bool true) ∧ J (pre ++ [x]) W' ∧ KeepsWalks W W')
  (W : World) (hJ : AbidesG W.heap.size J) (hm : W.cell? ⟨Bm, 0, none⟩ = some (.map (some b))) (hown : MapS W b m cnt) (h0 : J [] W) :
  CallsIn F n Tryz.prog 118 #[.func (.yield l) #[] #[], .pointer (some ⟨Bm, 0, none⟩)] W fun e W' => (∃ v, e = .returned v) ∧ ∃ ss : List FStr, (ss.Nodup ∧ (∀ x : FStr, x ∈ ss ↔ m x.1 = true) ∧ ss.length ≤ cnt) ∧ J ss W' := by
 have HY := Lib.hid hY
 have HJ := Lib.hid hJ
 have H0 := Lib.hid h0
 clear hY hJ h0
 refine callsIn_of_wp Tryz.func118 rfl h10 ?_ hro
 simp only [Tryz.ntmps118, List.size_toArray, List.length_cons, List.length_nil, Nat.reduceAdd, Nat.reduceSub, Array.replicate_succ, Array.replicate_zero, List.push_toArray, List.append_toArray, List.nil_append, List.cons_append]
 gi_wp2_with (first
  | (gi_at_range; refine wpListIn_range_str rfl _ rfl b m cnt rfl hown ?_; intro w0 hrg0 hg0 hs0)
  | gi_in)
 go_frame
 gi_loopw [3] (fun _ wr => ∃ (left : ByteArray → Bool) (c : Nat) (ss : List FStr), Hid (RangeS wr b W.heap.size m left c) ∧ ss.length + c ≤ cnt ∧ Hid (ComeS m left ss) ∧ Hid (J ss wr))
  (fun _ wr => wr.rangeLeft b W.heap.size)
 case atStart =>
  exact ⟨_, _, [], Lib.hid hrg0, by simp, Lib.hid ⟨List.nodup_nil, fun x => by simp⟩, Lib.hid (HJ.out [] W w0 none H0.out hg0 (fun r e => by cases e))⟩
 case round =>
  obtain ⟨left, c, ss, HRg, hcs, HC, HJs⟩ := hrel
  gi_wp2_with (first
   | (gi_at_next; refine wpListIn_next_str rfl _ rfl b W.heap.size m left c rfl HRg.out (fun hc0 hl0 => ?_) (fun p w2 c2 hp hl hmp hrg2 hlt hg2 hen => ?_))
   | gi_in)
  ·gi_wp2
   go_end0
   exact ⟨⟨_, rfl⟩, ss, ⟨HC.out.1, fun x => by rw [HC.out.2 x, hl0.out x.1 x.2]; simp, by omega⟩, HJs.out⟩
  ·have HJ2 := Lib.hid (HJ.out ss wr w2 (some W.heap.size) HJs.out hg2 (fun r e => by cases e; exact ⟨Nat.le_refl _, HRg.out.iter⟩))
   have HR2 := Lib.hid hrg2
   have HL := Lib.hid hl
   have HM := Lib.hid hmp
   have HP := Lib.hid hp
   have Hlt := Lib.hid hlt
   clear hrg2 hg2 hl hmp hlt
   obtain ⟨fn, tmps, assign, body, hy, hR⟩ := HY.out ss ⟨p, hp⟩ w2 HJ2.out (by have := Hlt.out; omega)
   dsimp only at hy
   rw [hy]
   gi_wp2
   refine hR.mono ?_
   rintro e W3 ⟨rfl, hJ3, hk3⟩
   have HJ3 := Lib.hid hJ3
   have HR3 := Lib.hid (HR2.out.walks hk3)
   clear hJ3 hk3
   gi_wp2
   go_roundw
   case rel => exact ⟨_, c2, ss ++ [⟨p, hp⟩], HR3, by have := Hlt.out; simp; omega, Lib.hid (HC.out.step ⟨p, hp⟩ HL.out HM.out), HJ3⟩
   case measure => rw [HR3.out.left_eq, HRg.out.left_eq]; exact Hlt.out
theorem keysS_seq (F : Fence) (n : Nat) (h10 : F.fn 118) (hro : F.round = none) (hn : 1 ≤ n) (Bm b : Nat) (m : ByteArray → Bool) (cnt : Nat) (w : World) (hBm : Bm < w.heap.size) (hm : w.cell? ⟨Bm, 0, none⟩ = some (.map (some b))) (hown : MapS w b m cnt) :
  SeqG F n Tryz.prog 118 #[.pointer (some ⟨Bm, 0, none⟩)] (fun x : FStr => #[.string x.1]) (fun ss => ss.Nodup ∧ (∀ x : FStr, x ∈ ss ↔ m x.1 = true) ∧ ss.length ≤ cnt) cnt w := fun l J W hW hJ hY h0 =>
 keysS1_in F n h10 hro hn l Bm b m cnt J hY W hJ ((hW.cell (p := ⟨Bm, 0, none⟩) hBm).trans hm) (hown.block (hW.block _ hown.lt)) h0
end Go.Proofs.YtebfoimbdljbmaaGreatDoor
