/-
  The library's function that hands on a map's keys, for maps from pairs of names. The conditions: the map lies in memory as it should.
-/
import Derived.Test.YtjllolagcdjlnaaGreatGi
import Derived.Test.YtjllolagcdjlnaaGreatSeqM
import Derived.Test.YtjllolagcdjlnaaGreatGd
import Derived.Shelf.Abstract
import Derived.Shelf.AbstractIn
import Derived.WalkKit
import Derived.OwnWalkIn
import Derived.TacticsInMore
import Derived.RegionIn
import Derived.LoopNIn
import Derived.LoopIn
import Derived.Sort.MapsRangeIn
namespace Go.Proofs.YtjllolagcdjlnaaGreat
open Go.RowKit Go.Shelf Go.Maps

section
variable {F : Fence} {n : Nat} {P : Program} {ops : Array Oper} {rest : List Oper} {o : Oper} {a : Act} {w w' : World} {Q : Exit → Act → World → Prop}
/-- an operation that is no call, by what it comes to -/
theorem wpListIn_value {v : Value} (hg : o.guard = none) (hd : ∀ c, o.op ≠ .defer c) (hab : o.about P w a.eval = none) (hr : (execOp a.eval o).run P w = .ok (.value v) w') (hK : wpListIn F n P ops Q rest (a.put o.dst v) w') : wpListIn F n P ops Q (o :: rest) a w := by
  refine wpListIn_plain hg fun K' hK' => ?_
  unfold Oper.wpIn
  refine ⟨by rw [hab]; simp, ?_⟩
  rw [Oper.semAt_plain F _ _ hd]
  simp [hr]
  exact hK' _ _ hK
theorem wpListIn_skips (hg : o.guard = none) (hd : ∀ c, o.op ≠ .defer c) (hab : o.about P w a.eval = none) (hr : (execOp a.eval o).run P w = .ok .skip w') (hK : wpListIn F n P ops Q rest (a.put o.dst undef) w') : wpListIn F n P ops Q (o :: rest) a w := by
  refine wpListIn_plain hg fun K' hK' => ?_
  unfold Oper.wpIn
  refine ⟨by rw [hab]; simp, ?_⟩
  rw [Oper.semAt_plain F _ _ hd]
  simp [hr]
  exact hK' _ _ hK
/-- a struct stored over a whole block -/
theorem wpListIn_store_all (hgd : o.guard = none) (ty : TypeId) (x y : Operand) (ho : o.op = .store ty x y) (g : Nat) (hx : a.eval x = .pointer (some ⟨g, 0, none⟩)) (cs : List Value) (hy : a.eval y = .agg cs.toArray) {sz : Nat} (hz : ∀ w, (Go.sizeOf ty).run P w = .ok sz w) (hn : cs.length = sz)
    (T : TypeId) (cur : Array Value) (hg : w.heap[g]? = some (.cells cur T (0, 0))) (hl : cs.length = cur.size) (h1 : ∀ v ∈ cs, v.oneCell' = true)
    (hK : ∀ w', w'.heap[g]? = some (.cells cs.toArray T (0, 0)) → GrownBy w w' (some g) → w'.heap.size = w.heap.size → wpListIn F n P ops Q rest (a.put o.dst undef) w') : wpListIn F n P ops Q (o :: rest) a w :=
  wpListIn_skips hgd (by rw [ho]; intro c hc; cases hc) (by simp [Oper.about, ho]) (exec_store_whole ho hx hy hz hn hg hl h1) (hK _ (heap_setRow hg _) (GrownBy.setRow _ _ _) (by simp [World.setRow]))
/-- a struct read -/
theorem wpListIn_load_cells (hgd : o.guard = none) (ty : TypeId) (x : Operand) (ho : o.op = .load ty x) (b off : Nat) (hx : a.eval x = .pointer (some ⟨b, off, none⟩)) {cs : List Value} {sz : Nat} (hA : ∀ w, (isAgg ty).run P w = .ok true w) (hz : ∀ w, (Go.sizeOf ty).run P w = .ok sz w) (hn : cs.length = sz)
    (h : CellsAt w b off cs) (hK : wpListIn F n P ops Q rest (a.put o.dst (.agg cs.toArray)) w) : wpListIn F n P ops Q (o :: rest) a w :=
  wpListIn_value hgd (by rw [ho]; intro c hc; cases hc) (by simp [Oper.about, ho]) (exec_load_cells ty x ho b off hx hA hz hn h) hK
end

theorem RangeP.walks {w w' : World} {b r : Nat} {m left : Pair → Bool} {cnt : Nat} (h : RangeP w b r m left cnt) (k : KeepsWalks w w') : RangeP w' b r m left cnt := by
  obtain ⟨D, n, lf, h1, h2⟩ := h
  exact ⟨D, n, lf, h1.of_walks k, h2⟩
theorem RangeP.iter {w : World} {b r : Nat} {m left : Pair → Bool} {cnt : Nat} (h : RangeP w b r m left cnt) : ∃ o : Obj, w.heap[r]? = some o ∧ o.isWalk = true := by
  obtain ⟨D, n, lf, h1, _⟩ := h
  exact h1.iter_walk
section
variable {F : Fence} {n : Nat} {ops : Array Oper} {rest : List Oper} {o : Oper} {a : Act} {w : World} {Q : Exit → Act → World → Prop}
theorem wpListIn_range_pair (hg : o.guard = none) (x : Operand) (hop : o.op = Op.range 99 x) (b : Nat) (m : Pair → Bool) (cnt : Nat) (hm : a.eval x = .map (some b)) (h : MapP w b m cnt)
    (hK : ∀ w', RangeP w' b w.heap.size m m cnt → GrownBy w w' none → w'.heap.size = w.heap.size + 1 → wpListIn F n Tryz.prog ops Q rest (a.put o.dst (.pointer (some ⟨w.heap.size, 0, none⟩))) w') : wpListIn F n Tryz.prog ops Q (o :: rest) a w := by
  obtain ⟨D, nn, hown, hn, hr, hc⟩ := h
  refine wpListIn_plain hg fun K' hK' => ?_
  obtain ⟨w', hrun, r1, r2, r3⟩ := hown.range Tryz.lawP Tryz.underlying99
  unfold Oper.wpIn
  refine ⟨by simp [Oper.about, hop], ?_⟩
  rw [Oper.semAt_plain F _ _ (by rw [hop]; intro c hc'; cases hc')]
  have hdr : w.drawn ≤ w'.drawn := run_drawn _ _ _ _ hrun
  simp [execOp, hop, hm, hrun, Result.andThen]
  exact hK' _ _ (hK w' ⟨D, nn, _, hc ▸ r1, hr, hr.has, hr.keys⟩ ⟨r2, hdr⟩ r3)
theorem wpListIn_next_pair (hg : o.guard = none) (it : Operand) (hop : o.op = Op.next it false) (b r : Nat) (m left : Pair → Bool) (cnt : Nat) (hit : a.eval it = .pointer (some ⟨r, 0, none⟩)) (h : RangeP w b r m left cnt)
    (hDone : cnt = 0 → Hid (∀ p, FitP p → left p = false) → wpListIn F n Tryz.prog ops Q rest (a.put o.dst (.tuple #[.bool false])) w)
    (hMore : ∀ (p : Pair) (w' : World) (cnt' : Nat), FitP p → left p = true → m p = true → RangeP w' b r m (fun y => left y && !decide (y = p)) cnt' → cnt' < cnt → GrownBy w w' (some r) →
      (Instr.entry (.pointer (some ⟨r, 0, none⟩))).run Tryz.prog w' = .ok (.tuple #[.agg #[.string p.1.1, .string p.1.2, .string p.2.1, .string p.2.2], .bool true]) w' → wpListIn F n Tryz.prog ops Q rest (a.put o.dst (.tuple #[.bool true, .agg #[.string p.1.1, .string p.1.2, .string p.2.1, .string p.2.2], .bool true])) w') :
    wpListIn F n Tryz.prog ops Q (o :: rest) a w := by
  obtain ⟨D, nn, lf, hrg, hr, hl1, hl2⟩ := h
  refine wpListIn_plain hg fun K' hK' => ?_
  unfold Oper.wpIn
  refine ⟨by simp [Oper.about, hop], ?_⟩
  rw [Oper.semAt_plain F _ _ (by rw [hop]; intro c hc'; cases hc')]
  rcases hrg.next Tryz.lawP o.type with ⟨h0, hl, hrun⟩ | ⟨key, v, kl, y, w', cnt', hkey, hlk, hv, hat, hrun, hrg', hlt, hgr, hsz, hen⟩
  · simp [execOp, hop, hit, hrun, Result.andThen]
    exact hK' _ _ (hDone h0 (Lib.hid fun u hu => by rw [← hl1 u hu]; exact hl _))
  · have hdr : w.drawn ≤ w'.drawn := run_drawn _ _ _ _ hrun
    obtain ⟨p, rfl, hp, rfl⟩ := pair_of_key hkey
    obtain ⟨c, rfl, rfl⟩ := bool_inv hv
    have hhas : Maps.has D (litP p) = true := has_true_of_atKey hat
    rw [hr.has p hp] at hhas
    have h0 := hr.at' p hp hhas
    rw [hat] at h0
    injection h0 with h0
    injection h0 with h0
    subst h0
    simp [execOp, hop, hit, hrun, Result.andThen]
    refine hK' _ _ (hMore p w' cnt' hp (by rw [← hl1 p hp]; exact hlk) hhas ⟨D, nn, _, hrg', hr, fun y hy => ?_, fun kl hkl => hl2 kl ?_⟩ hlt ⟨hgr, hdr⟩ hen)
    · rw [hl1 y hy, litP_same hy hp]
    · simp only [Bool.and_eq_true] at hkl; exact hkl.1
end

abbrev FPair := { p : Pair // FitP p }
/-- what has come so far -/
def Come (m left : Pair → Bool) (ss : List FPair) : Prop := ss.Nodup ∧ ∀ x : FPair, x ∈ ss ↔ m x.1 = true ∧ left x.1 = false
theorem Come.step {m left : Pair → Bool} {ss : List FPair} (h : Come m left ss) (p : FPair) (hl : left p.1 = true) (hm : m p.1 = true) : Come m (fun y => left y && !decide (y = p.1)) (ss ++ [p]) := by
  have hn : p ∉ ss := fun hp => by rw [((h.2 p).1 hp).2] at hl; cases hl
  refine ⟨(List.perm_append_singleton p ss).nodup_iff.2 (List.nodup_cons.2 ⟨hn, h.1⟩), fun x => ?_⟩
  rw [List.mem_append, h.2 x]
  by_cases he : x = p
  · subst he; simp [hl, hm]
  · have : x.1 ≠ p.1 := fun e => he (Subtype.ext e)
    simp [he, this]

set_option maxRecDepth 100000 in
set_option maxHeartbeats 1000000 in
theorem keysP_in (F : Fence) (n : Nat) (h7 : F.fn 69) (hro : F.round = none) (b : Nat) (w : World) :
    CallsIn F n Tryz.prog 69 #[.map (some b)] w fun e w' => e = .returned (.func (.func 110) #[] #[.pointer (some ⟨w.heap.size, 0, none⟩)]) ∧ w' = w.alloc (.cells #[.map (some b)] 99) := by
  refine callsIn_of_wp Tryz.func69 rfl h7 ?_ hro
  simp only [Tryz.ntmps69, List.size_toArray, List.length_cons, List.length_nil, Nat.reduceAdd, Nat.reduceSub, Array.replicate_succ, Array.replicate_zero, List.push_toArray, List.append_toArray, List.nil_append, List.cons_append]
  gi_wp2
  go_ret
  exact ⟨rfl, rfl⟩

set_option maxRecDepth 100000 in
set_option maxHeartbeats 1000000 in
theorem keysP1_in (F : Fence) (n : Nat) (h10 : F.fn 110) (hro : F.round = none) (hn : 1 ≤ n) (l Bm b : Nat) (m : Pair → Bool) (cnt : Nat) (J : List FPair → World → Prop)
    (hY : ∀ pre x W, J pre W → pre.length < cnt → YieldAt F (n - 1) Tryz.prog l #[.agg #[.string x.1.1.1, .string x.1.1.2, .string x.1.2.1, .string x.1.2.2]] W fun e W' => e = .returned (.bool true) ∧ J (pre ++ [x]) W' ∧ KeepsWalks W W')
    (W : World) (hJ : AbidesG W.heap.size J) (hm : W.cell? ⟨Bm, 0, none⟩ = some (.map (some b))) (hown : MapP W b m cnt) (h0 : J [] W) :
    CallsIn F n Tryz.prog 110 #[.func (.yield l) #[] #[], .pointer (some ⟨Bm, 0, none⟩)] W fun e W' => (∃ v, e = .returned v) ∧ ∃ ss : List FPair, (ss.Nodup ∧ (∀ x : FPair, x ∈ ss ↔ m x.1 = true) ∧ ss.length ≤ cnt) ∧ J ss W' := by
  have HY := Lib.hid hY
  have HJ := Lib.hid hJ
  have H0 := Lib.hid h0
  clear hY hJ h0
  refine callsIn_of_wp Tryz.func110 rfl h10 ?_ hro
  simp only [Tryz.ntmps110, List.size_toArray, List.length_cons, List.length_nil, Nat.reduceAdd, Nat.reduceSub, Array.replicate_succ, Array.replicate_zero, List.push_toArray, List.append_toArray, List.nil_append, List.cons_append]
  gi_wp2_with (first
    | (gi_at_range; refine wpListIn_range_pair rfl _ rfl b m cnt rfl hown ?_; intro w0 hrg0 hg0 hs0)
    | gi_in)
  go_frame
  gi_loopw [3] (fun _ wr => ∃ (left : Pair → Bool) (c : Nat) (ss : List FPair), Hid (RangeP wr b W.heap.size m left c) ∧ ss.length + c ≤ cnt ∧ Hid (Come m left ss) ∧ Hid (J ss wr))
    (fun _ wr => wr.rangeLeft b W.heap.size)
  case atStart =>
    exact ⟨_, _, [], Lib.hid hrg0, by simp, Lib.hid ⟨List.nodup_nil, fun x => by simp⟩, Lib.hid (HJ.out [] W w0 none H0.out hg0 (fun r e => by cases e))⟩
  case round =>
    obtain ⟨left, c, ss, HRg, hcs, HC, HJs⟩ := hrel
    gi_wp2_with (first
      | (gi_at_next; refine wpListIn_next_pair rfl _ rfl b W.heap.size m left c rfl HRg.out (fun hc0 hl0 => ?_) (fun p w2 c2 hp hl hmp hrg2 hlt hg2 hen => ?_))
      | (refine wpListIn_store_all rfl 107 _ _ rfl w2.heap.size rfl [.string p.1.1, .string p.1.2, .string p.2.1, .string p.2.2] rfl Tryz.size107 rfl 107 _ (heap_alloc_new _ _) rfl (by simp [Value.oneCell']) ?_; intro w4 hb4 hg4 hs4)
      | gi_in)
    · gi_wp2
      go_end0
      exact ⟨⟨_, rfl⟩, ss, ⟨HC.out.1, fun x => by rw [HC.out.2 x, hl0.out x.1 x.2]; simp, by omega⟩, HJs.out⟩
    · have HJ2 := Lib.hid (HJ.out ss wr w2 (some W.heap.size) HJs.out hg2 (fun r e => by cases e; exact ⟨Nat.le_refl _, HRg.out.iter⟩))
      have HR2 := Lib.hid hrg2
      have HL := Lib.hid hl
      have HM := Lib.hid hmp
      have HP := Lib.hid hp
      have Hlt := Lib.hid hlt
      clear hrg2 hg2 hl hmp hlt
      obtain ⟨w4, hw4⟩ : ∃ w4, w4 = w2.alloc (.cells #[.string p.1.1, .string p.1.2, .string p.2.1, .string p.2.2] 107) := ⟨_, rfl⟩
      have HJ4 := Lib.hid (HJ.out ss w2 w4 none HJ2.out (hw4 ▸ GrownBy.alloc _ _) (fun r e => by cases e))
      have HK4 := Lib.hid (hw4 ▸ KeepsWalks.alloc w2 _ : KeepsWalks w2 w4)
      rw [← hw4]
      obtain ⟨fn, tmps, assign, body, hy, hR⟩ := HY.out ss ⟨p, hp⟩ w4 HJ4.out (by have := Hlt.out; omega)
      dsimp only at hy
      clear hw4
      rw [hy]
      gi_wp2
      refine hR.mono ?_
      rintro e W3 ⟨rfl, hJ3, hk3⟩
      have HJ3 := Lib.hid hJ3
      have HR3 := Lib.hid ((HR2.out.walks HK4.out).walks hk3)
      clear hJ3 hk3
      gi_wp2
      go_roundw
      case rel => exact ⟨_, c2, ss ++ [⟨p, hp⟩], HR3, by have := Hlt.out; simp; omega, Lib.hid (HC.out.step ⟨p, hp⟩ HL.out HM.out), HJ3⟩
      case measure => rw [HR3.out.left_eq, HRg.out.left_eq]; exact Hlt.out

theorem keysP_seq (F : Fence) (n : Nat) (h10 : F.fn 110) (hro : F.round = none) (hn : 1 ≤ n) (Bm b : Nat) (m : Pair → Bool) (cnt : Nat) (w : World) (hBm : Bm < w.heap.size) (hm : w.cell? ⟨Bm, 0, none⟩ = some (.map (some b))) (hown : MapP w b m cnt) :
    SeqG F n Tryz.prog 110 #[.pointer (some ⟨Bm, 0, none⟩)] (fun x : FPair => #[.agg #[.string x.1.1.1, .string x.1.1.2, .string x.1.2.1, .string x.1.2.2]]) (fun ss => ss.Nodup ∧ (∀ x : FPair, x ∈ ss ↔ m x.1 = true) ∧ ss.length ≤ cnt) cnt w := fun l J W hW hJ hY h0 =>
  keysP1_in F n h10 hro hn l Bm b m cnt J hY W hJ ((hW.cell (p := ⟨Bm, 0, none⟩) hBm).trans hm) (hown.block (hW.block _ hown.lt)) h0
end Go.Proofs.YtjllolagcdjlnaaGreat
