/-
  Reading a value from a place on: what the document's get gives. The conditions: the bytes are at most 65536, and lie in old memory.
-/
import Derived.Test.YtpkgkabcikmopaaNextR
namespace Go.Proofs.Ytpkgkabcikmopaa
open Go.RowKit

theorem results_two {P : Program} {fn : Func} {tmps : Array Value} {w : World} {a b : Tmp} {T U : TypeId} {g k n m : Nat} {cs ds : List Value} (h : fn.results = #[.cell a T, .cell b U]) (hp : tmps.getD a undef = .pointer (some ⟨g, 0, none⟩)) (hq : tmps.getD b undef = .pointer (some ⟨k, 0, none⟩))
    (hA : ∀ w, (isAgg T).run P w = .ok true w) (hz : ∀ w, (Go.sizeOf T).run P w = .ok n w) (hn : cs.length = n) (hc : CellsAt w g 0 cs) (hB : ∀ w, (isAgg U).run P w = .ok true w) (hy : ∀ w, (Go.sizeOf U).run P w = .ok m w) (hm : ds.length = m) (hd : CellsAt w k 0 ds) :
    (results fn tmps).run P w = .ok (.tuple #[.agg cs.toArray, .agg ds.toArray]) w := by
  have hp' : tmps[a]?.getD undef = .pointer (some ⟨g, 0, none⟩) := by simpa using hp
  have hq' : tmps[b]?.getD undef = .pointer (some ⟨k, 0, none⟩) := by simpa using hq
  simp [results, h, hp', hq', asAddr, run_loadVar_cells hA hz hn hc, run_loadVar_cells hB hy hm hd]
theorem readsN_join {bs bs1 bs2 : List UInt8} {bad bad1 bad2 : Bool} {hi lo : Nat} (h : ReadsN 4 bs bad hi bs1 bad1) (k : ReadsN 4 bs1 bad1 lo bs2 bad2) : ReadsN 8 bs bad (hi * 4294967296 + lo) bs2 bad2 := by
  have h4 : hi < 4294967296 := h.2.2.2.1
  have k4 : lo < 4294967296 := k.2.2.2.1
  refine ⟨fun e => k.1 (h.1 e), Nat.le_trans k.2.1 h.2.1, fun e => ?_, (by show _ < 18446744073709551616; omega), fun l rest hl hb h0 => ?_⟩
  · have := k.2.2.1 e
    have := h.2.2.1 (k.good e)
    omega
  · obtain ⟨e1, e2, e3⟩ := h.2.2.2.2 (l.take 4) (l.drop 4 ++ rest) (by rw [List.length_take]; omega) (by rw [← List.append_assoc, List.take_append_drop]; exact hb) h0
    obtain ⟨f1, f2, f3⟩ := k.2.2.2.2 (l.drop 4) rest (by rw [List.length_drop]; omega) e2 e3
    refine ⟨?_, f2, f3⟩
    match l, hl with
    | [a, b, c, d, e, f, g, i], _ =>
      simp [beNat] at e1 f1 ⊢
      omega

/-- what the frame of get holds: the reading's place, its two results yet untouched, the value in the making -/
structure GetAt (w wr : World) (A : Option Addr) (N c p : Nat) (bad : Bool) (vc : List Value) : Prop where
  ext : Ext w wr
  size : w.heap.size + 4 ≤ wr.heap.size
  r : wr.heap[w.heap.size]? = some (Obj.cells #[Value.slice A N c, Value.int IntKind.i64 (((p) : Nat) : Int), Value.bool bad] 84)
  zr : wr.heap[w.heap.size + 1]? = some (Obj.cells #[Value.slice none 0 0, Value.int IntKind.i64 (((0) : Nat) : Int), Value.bool false] 84)
  zv : wr.heap[w.heap.size + 2]? = some (.cells zeroCells.toArray 27 (0, 0))
  v : wr.heap[w.heap.size + 3]? = some (.cells vc.toArray 27 (0, 0))
section
variable {w wr w' : World} {A : Option Addr} {N c p p' : Nat} {bad bad' : Bool} {vc vc' : List Value}
theorem GetAt.new : GetAt w ((((w.alloc (Obj.cells #[Value.slice A N c, Value.int IntKind.i64 (((p) : Nat) : Int), Value.bool bad] 84)).alloc (Obj.cells #[Value.slice none 0 0, Value.int IntKind.i64 (((0) : Nat) : Int), Value.bool false] 84)).alloc (.cells zeroCells.toArray 27)).alloc (.cells zeroCells.toArray 27)) A N c p bad zeroCells := by
  refine ⟨((((Ext.refl w).alloc _).alloc _).alloc _).alloc _, by simp, ?_, ?_, ?_, ?_⟩
  · rw [Below.heap_alloc _ _ _ (by simp; omega), Below.heap_alloc _ _ _ (by simp; omega), Below.heap_alloc _ _ _ (by simp)]; exact heap_alloc_new _ _
  · rw [Below.heap_alloc _ _ _ (by simp), Below.heap_alloc _ _ _ (by simp)]; exact heap_alloc_at (by simp) _
  · rw [Below.heap_alloc _ _ _ (by simp)]; exact heap_alloc_at (by simp) _
  · exact heap_alloc_at (by simp) _
theorem GetAt.call (G : GetAt w wr A N c p bad vc) (k : Ext wr w') : GetAt w w' A N c p bad vc :=
  ⟨G.ext.trans k, Nat.le_trans G.size k.size, (k.block _ (Blk_lt G.r)).trans G.r, (k.block _ (Blk_lt G.zr)).trans G.zr, (k.block _ (Blk_lt G.zv)).trans G.zv, (k.block _ (Blk_lt G.v)).trans G.v⟩
theorem GetAt.setR (G : GetAt w wr A N c p bad vc) (e : w' = wr.setRow w.heap.size [.slice A N c, .int .i64 p', .bool bad'].toArray) : GetAt w w' A N c p' bad' vc := by
  have k : GrownBy wr w' (some w.heap.size) := by rw [e]; exact GrownBy.setRow _ _ _
  exact ⟨G.ext.fresh k (Nat.le_refl _), Nat.le_trans G.size k.size, by rw [e]; exact heap_setRow G.r _, (k.block _ (Blk_lt G.zr) (by simp)).trans G.zr, (k.block _ (Blk_lt G.zv) (by simp)).trans G.zv, (k.block _ (Blk_lt G.v) (by simp)).trans G.v⟩
theorem GetAt.setV (G : GetAt w wr A N c p bad vc) (h : w'.heap[w.heap.size + 3]? = some (.cells vc'.toArray 27 (0, 0))) (k : GrownBy wr w' (some (w.heap.size + 3))) : GetAt w w' A N c p bad vc' :=
  ⟨G.ext.fresh k (by omega), Nat.le_trans G.size k.size, (k.block _ (Blk_lt G.r) (by simp)).trans G.r, (k.block _ (Blk_lt G.zr) (by simp)).trans G.zr, (k.block _ (Blk_lt G.zv) (by simp)).trans G.zv, h⟩
theorem GetAt.setBad (G : GetAt w wr A N c p bad vc) (h : w'.heap[w.heap.size]? = some (.cells (#[Value.slice A N c, .int .i64 (p : Int), .bool bad].setIfInBounds 2 (.bool true)) 84 (0, 0))) (k : GrownBy wr w' (some w.heap.size)) : GetAt w w' A N c p true vc :=
  ⟨G.ext.fresh k (Nat.le_refl _), Nat.le_trans G.size k.size, h, (k.block _ (Blk_lt G.zr) (by simp)).trans G.zr, (k.block _ (Blk_lt G.zv) (by simp)).trans G.zv, (k.block _ (Blk_lt G.v) (by simp)).trans G.v⟩
theorem GetAt.cellsR (G : GetAt w wr A N c p bad vc) : CellsAt wr w.heap.size 0 [.slice A N c, .int .i64 p, .bool bad] := fun j v hj => by rw [cell_of_row _ _ _ _ _ _ G.r, Nat.zero_add]; simpa using hj
theorem GetAt.cellsV (G : GetAt w wr A N c p bad vc) : CellsAt wr (w.heap.size + 3) 0 vc := fun j v hj => by rw [cell_of_row _ _ _ _ _ _ G.v, Nat.zero_add]; simpa using hj

/-- 'return r, v' -/
def RetR (w wr : World) (A : Option Addr) (N c p : Nat) (bad : Bool) (vc : List Value) (vs : List Value) (W : World) : Prop := wr.heap.size ≤ W.heap.size ∧ Ext w W ∧ (∀ b, b < wr.heap.size → b ≠ w.heap.size + 1 → b ≠ w.heap.size + 2 → W.heap[b]? = wr.heap[b]?) ∧ match vs with
  | [] => W.heap[w.heap.size + 1]? = some (Obj.cells #[Value.slice none 0 0, Value.int IntKind.i64 (((0) : Nat) : Int), Value.bool false] 84) ∧ W.heap[w.heap.size + 2]? = some (.cells zeroCells.toArray 27 (0, 0))
  | [_] => W.heap[w.heap.size + 1]? = some (Obj.cells #[Value.slice A N c, Value.int IntKind.i64 (((p) : Nat) : Int), Value.bool bad] 84) ∧ W.heap[w.heap.size + 2]? = some (.cells zeroCells.toArray 27 (0, 0))
  | _ => W.heap[w.heap.size + 1]? = some (Obj.cells #[Value.slice A N c, Value.int IntKind.i64 (((p) : Nat) : Int), Value.bool bad] 84) ∧ W.heap[w.heap.size + 2]? = some (.cells vc.toArray 27 (0, 0))
theorem wp_skip {P : Program} {o : Oper} {a : Act} {w w' : World} {K : Act → World → Prop} {Q : Exit → Act → World → Prop} (hrun : (execOp a.eval o).run P w = .ok .skip w') (hk : K (a.put o.dst undef) w') : o.wp P a w K Q := by
  unfold Oper.wp
  rw [hrun]
  exact hk
theorem ret_region {l : List Oper} {a0 : Act} {id : Nat} {Q : Exit → Act → World → Prop} (x y : Nat) (o0 o1 o2 o3 : Oper) (hl : l = [o0, o1, o2, o3]) (G : GetAt w wr A N c p bad vc) (h8 : vc.length = 8) (h1 : ∀ v ∈ vc, v.oneCell' = true)
    (e0 : o0.op = .load 84 (.tmp 2)) (e1 : o1.op = .load 27 (.tmp 6)) (e2 : o2.op = .store 84 (.tmp 4) (.tmp x)) (e3 : o3.op = .store 27 (.tmp 5) (.tmp y))
    (hB : monoB l 4 = true) (hg : plainB l 4 a0.tmps.size = true) (hc : chainedB l 4 [2, 3] = true) (hd : (notDst l 4 2 && notDst l 4 6 && notDst l 4 4 && notDst l 4 5 && dstIs l 0 x && dstIs l 1 y && waits l 2 0 && waits l 3 1) = true)
    (a2 : a0.eval (.tmp 2) = .pointer (some ⟨w.heap.size, 0, none⟩)) (a6 : a0.eval (.tmp 6) = .pointer (some ⟨w.heap.size + 3, 0, none⟩)) (a4 : a0.eval (.tmp 4) = .pointer (some ⟨w.heap.size + 1, 0, none⟩)) (a5 : a0.eval (.tmp 5) = .pointer (some ⟨w.heap.size + 2, 0, none⟩))
    (hk : ∀ y0 y1 y2 y3 W, W.heap[w.heap.size + 1]? = some (Obj.cells #[Value.slice A N c, Value.int IntKind.i64 (((p) : Nat) : Int), Value.bool bad] 84) → W.heap[w.heap.size + 2]? = some (.cells vc.toArray 27 (0, 0)) → Ext w W → wr.heap.size ≤ W.heap.size → (∀ b, b < wr.heap.size → b ≠ w.heap.size + 1 → b ≠ w.heap.size + 2 → W.heap[b]? = wr.heap[b]?) →
      wpList Try.prog l.toArray Q (l.drop 4) (putAll a0 (l.take 4) [y0, y1, y2, y3]) W) : (Code.region id l.toArray true).wp Try.prog Q a0 wr := by
  simp only [Bool.and_eq_true] at hd
  obtain ⟨⟨⟨⟨⟨⟨⟨d2, d6⟩, d4⟩, d5⟩, dx⟩, dy⟩, w20⟩, w31⟩ := hd
  refine staged_region 4 [2, 3] [.agg #[.slice A N c, .int .i64 p, .bool bad], .agg vc.toArray, undef, undef] (RetR w wr A N c p bad vc) (by kernel_rfl) hB hg hc
    ⟨Nat.le_refl _, G.ext.drewN 1, fun _ _ _ _ => rfl, G.zr, G.zv⟩ (fun i op hi hn ho vs W a hRR hold hat => ?_) (fun k i op hk' ho vs W a hvl hRR hold hat Q' K hK => ?_) ?_
  · subst hl
    obtain ⟨s1, s2, s3, s4⟩ := hRR
    rcases (by simp at hn; omega : i = 0 ∨ i = 1) with rfl | rfl <;> obtain rfl := Option.some.inj ho
    · refine exec_load_cells _ _ e0 w.heap.size 0 ((hold 2 d2).trans a2) (cs := [.slice A N c, .int .i64 p, .bool bad]) Try.aggRd Try.sizeRd rfl fun j v hj => ?_
      rw [cell_of_row _ _ _ _ _ _ ((s3 _ (Blk_lt G.r) (by omega) (by omega)).trans G.r), Nat.zero_add]; simpa using hj
    · refine exec_load_cells _ _ e1 (w.heap.size + 3) 0 ((hold 6 d6).trans a6) (cs := vc) Try.agg27 Try.size27 h8 fun j v hj => ?_
      rw [cell_of_row _ _ _ _ _ _ ((s3 _ (Blk_lt G.v) (by omega) (by omega)).trans G.v), Nat.zero_add]; simpa using hj
  · subst hl
    have hk2 : k < 2 := by simpa using (List.getElem?_eq_some_iff.1 hk').1
    rcases (by omega : k = 0 ∨ k = 1) with rfl | rfl <;> obtain rfl := Option.some.inj hk' <;> obtain rfl := Option.some.inj ho
    · obtain rfl := List.eq_nil_of_length_eq_zero hvl
      obtain ⟨s1, s2, s3, s4, s5⟩ := hRR
      refine wp_skip (exec_store_whole e2 ((hold 4 d4).trans a4) (cs := [.slice A N c, .int .i64 p, .bool bad]) (hat 0 x (by omega) w20 dx) Try.sizeRd rfl s4 rfl (rd_one A N c p bad)) (hK _ _ ?_)
      have k := GrownBy.setRow W (w.heap.size + 1) [.slice A N c, .int .i64 (p : Int), .bool bad].toArray
      exact ⟨Nat.le_trans s1 k.size, s2.fresh k (by omega), fun b h1 h2 h3 => (k.block b (by omega) (fun e => by injection e with e; omega)).trans (s3 b h1 h2 h3), heap_setRow s4 _, (k.block _ (Blk_lt s5) (by simp)).trans s5⟩
    · obtain ⟨r1, rfl⟩ := list1 hvl
      obtain ⟨s1, s2, s3, s4, s5⟩ := hRR
      refine wp_skip (exec_store_whole e3 ((hold 5 d5).trans a5) (cs := vc) (hat 1 y (by omega) w31 dy) Try.size27 h8 s5 (by rw [h8]; rfl) h1) (hK _ _ ?_)
      have k := GrownBy.setRow W (w.heap.size + 2) vc.toArray
      exact ⟨Nat.le_trans s1 k.size, s2.fresh k (by omega), fun b h1 h2 h3 => (k.block b (by omega) (fun e => by injection e with e; omega)).trans (s3 b h1 h2 h3), (k.block _ (Blk_lt s4) (by simp)).trans s4, heap_setRow s5 _⟩
  · intro xs vs W hxl hvl hRR _
    obtain ⟨y0, y1, y2, y3, rfl⟩ := list4 hxl
    obtain ⟨r1, r2, rfl⟩ := list2 hvl
    obtain ⟨s1, s2, s3, s4, s5⟩ := hRR
    exact hk y0 y1 y2 y3 W s4 s5 s2 s1 s3
end
theorem GetAt.off {w w5 wr : World} {A : Option Addr} {N c p p' : Nat} {bad bad' : Bool} {vc vc' : List Value} (G : GetAt w w5 A N c p bad vc) (k : Off w5 wr (fun b => b = w.heap.size ∨ b = w.heap.size + 3)) (h1 : wr.heap[w.heap.size]? = some (Obj.cells #[Value.slice A N c, Value.int IntKind.i64 (((p') : Nat) : Int), Value.bool bad'] 84)) (h2 : wr.heap[w.heap.size + 3]? = some (.cells vc'.toArray 27 (0, 0))) : GetAt w wr A N c p' bad' vc' :=
  ⟨⟨⟨k.os.trans G.ext.os, k.tape.trans G.ext.tape, k.output.trans G.ext.output, Nat.le_trans G.ext.size k.size, fun b hb => (k.block b (Nat.lt_of_lt_of_le hb G.ext.size) (by omega)).trans (G.ext.block b hb)⟩, Nat.le_trans G.ext.drawn k.drawn⟩,
    Nat.le_trans G.size k.size, h1, (k.block _ (Blk_lt G.zr) (by omega)).trans G.zr, (k.block _ (Blk_lt G.zv) (by omega)).trans G.zv, h2⟩
theorem GetAt.own {w wr w' : World} {A : Option Addr} {N c p : Nat} {bad : Bool} {vc : List Value} {r : Option Nat} (G : GetAt w wr A N c p bad vc) (k : GrownBy wr w' r) (hr : ∀ b, r = some b → w.heap.size + 4 ≤ b) : GetAt w w' A N c p bad vc :=
  have ne : ∀ j, j < 4 → some (w.heap.size + j) ≠ r := fun j hj e => by have := hr _ e.symm; omega
  ⟨⟨⟨k.os.trans G.ext.os, k.tape.trans G.ext.tape, k.output.trans G.ext.output, Nat.le_trans G.ext.size k.size, fun b hb => (k.block b (Nat.lt_of_lt_of_le hb G.ext.size) (fun e => by have := hr _ e.symm; omega)).trans (G.ext.block b hb)⟩, Nat.le_trans G.ext.drawn k.drawn⟩,
    Nat.le_trans G.size k.size, (k.block _ (Blk_lt G.r) (ne 0 (by omega))).trans G.r, (k.block _ (Blk_lt G.zr) (ne 1 (by omega))).trans G.zr, (k.block _ (Blk_lt G.zv) (ne 2 (by omega))).trans G.zv, (k.block _ (Blk_lt G.v) (ne 3 (by omega))).trans G.v⟩
/-- a name is read -/
theorem name_facts {w wr w6 w7 : World} {A : Option Addr} {N c p p2 : Nat} {bad bad2 : Bool} {vc : List Value} (G : GetAt w wr A N c p bad vc) (hx : Ext wr w6) (e7 : w7 = w6.setRow w.heap.size [.slice A N c, .int .i64 p2, .bool bad2].toArray) :
    GetAt w w7 A N c p2 bad2 vc ∧ Off wr w7 (fun b => b = w.heap.size) :=
  ⟨(G.call hx).setR e7, (Off.of_ext hx _).trans (Off.of_grown (P := fun b => b = w.heap.size) (by rw [e7]; exact GrownBy.setRow w6 w.heap.size _) fun b e => by injection e with e; exact e.symm)⟩
/-- a value is read, and put into its variable -/
theorem item_facts {w wr w6 w7 w8 : World} {A : Option Addr} {N c p p2 : Nat} {bad bad2 : Bool} {vc cs : List Value} {x : Val} (G : GetAt w wr A N c p bad vc) (hx : Ext (wr.alloc (.cells zeroCells.toArray 27)) w6)
    (ha : Val.At (fun b => (wr.alloc (.cells zeroCells.toArray 27)).heap.size ≤ b ∧ b < w6.heap.size) w6 x cs) (e7 : w7 = w6.setRow w.heap.size [.slice A N c, .int .i64 p2, .bool bad2].toArray) (e8 : w8 = w7.setRow wr.heap.size cs.toArray) :
    w7.heap[wr.heap.size]? = some (.cells zeroCells.toArray 27 (0, 0)) ∧ GetAt w w8 A N c p2 bad2 vc ∧ Off wr w8 (fun b => b = w.heap.size) ∧ Val.At (fun b => wr.heap.size ≤ b ∧ b < w8.heap.size) w8 x cs ∧ CellsAt w8 wr.heap.size 0 cs := by
  have hxw : Ext wr w6 := ((Ext.refl wr).alloc _).trans hx
  obtain ⟨G7, o7⟩ := name_facts G hxw e7
  have hs := G.size
  have k7 : GrownBy w6 w7 (some w.heap.size) := by rw [e7]; exact GrownBy.setRow _ _ _
  have k8 : GrownBy w7 w8 (some wr.heap.size) := by rw [e8]; exact GrownBy.setRow _ _ _
  have h6 : w6.heap[wr.heap.size]? = some (.cells zeroCells.toArray 27 (0, 0)) := (hx.block _ (by simp)).trans (heap_alloc_new _ _)
  have h7 := (k7.block wr.heap.size (Blk_lt h6) (fun e => by injection e with e; omega)).trans h6
  have hz : (wr.alloc (.cells zeroCells.toArray 27)).heap.size = wr.heap.size + 1 := by simp
  refine ⟨h7, ⟨G7.ext.fresh k8 (by omega), Nat.le_trans G7.size k8.size, (k8.block _ (Blk_lt G7.r) (fun e => by injection e with e; omega)).trans G7.r, (k8.block _ (Blk_lt G7.zr) (fun e => by injection e with e; omega)).trans G7.zr, (k8.block _ (Blk_lt G7.zv) (fun e => by injection e with e; omega)).trans G7.zv, (k8.block _ (Blk_lt G7.v) (fun e => by injection e with e; omega)).trans G7.v⟩,
    o7.fresh (Off.of_grown (P := fun b => b = wr.heap.size) k8 fun b e => by injection e with e; exact e.symm) (fun b hb => .inr (by omega)), ?_, ?_⟩
  · refine (ha.alike (w' := w8) fun b hb => ?_).mono fun b hb => ⟨by have := hb.1; omega, Nat.lt_of_lt_of_le hb.2 (Nat.le_trans k7.size k8.size)⟩
    rw [hz] at hb
    exact (k8.block b (Nat.lt_of_lt_of_le hb.2 k7.size) (fun e => by injection e with e; omega)).trans (k7.block b hb.2 (fun e => by injection e with e; omega))
  · intro j v hj
    rw [cell_of_row _ _ _ _ _ _ (by rw [e8]; exact heap_setRow h7 _), Nat.zero_add]; simpa using hj

/-- what reading a value is to leave, nested so deep that m levels more are allowed -/
def GetOk (m : Nat) : Prop := ∀ (deep : Nat), deep + m = 51 → ∀ (A : Option Addr) (N c p : Nat) (la : List UInt8), N = la.length → ∀ (bad : Bool) (w : World), SrcAt w A la.length (cellsB la) → N ≤ 65536 → N ≤ c → p ≤ N →
  Calls Try.prog 62 #[(Value.agg #[Value.slice A N c, Value.int IntKind.i64 (((p) : Nat) : Int), Value.bool bad]), .int .i64 deep] w fun e w' => Ext w w' ∧ ∃ (x : Val) (cs : List Value) (p' : Nat) (bad' : Bool), e = .returned (.tuple #[(Value.agg #[Value.slice A N c, Value.int IntKind.i64 (((p') : Nat) : Int), Value.bool bad']), .agg cs.toArray]) ∧ p' ≤ N ∧ Reads (la.drop p) bad m x (la.drop p') bad' ∧ Val.At (fun b => w.heap.size ≤ b ∧ b < w'.heap.size) w' x cs
theorem u64_in_nat (x : Nat) (h : x < 18446744073709551616) : IntKind.u64.wrap (x : Int) = x := by
  simp [IntKind.wrap, IntKind.signed, IntKind.bits]
  omega
theorem plain_all (w : World) (k : Int) (bo : Bool) (n : Int) (t ut ui : ByteArray) (hk : I64 k) (hn : I64 n) (h1 : t.size ≤ maxLen) (h2 : ut.size ≤ maxLen) (h3 : ui.size ≤ maxLen) : Hid (∀ W : World, Val.At (fun b => w.heap.size ≤ b ∧ b < W.heap.size) W (.mk k bo n t ut ui [] []) [.int .i64 k, .bool bo, .int .i64 n, .string t, .string ut, .string ui, .slice none 0 0, .slice none 0 0]) :=
  Lib.hid fun W => Val.plain_at _ W k bo n t ut ui hk hn h1 h2 h3

set_option maxRecDepth 100000 in
set_option maxHeartbeats 3200000 in
theorem get_step (m : Nat) (ih : ∀ m', m = m' + 1 → GetOk m') : GetOk m := by
  have IH := Lib.hid ih
  clear ih
  intro deep hdm A N c p la hNe bad w hs hl hc hp
  have HS := Lib.hid hs
  have HNe := Lib.hid hNe
  clear hs hNe
  go_enter Try.func62, Try.ntmps62
  go_wp2_with fail
  refine (next_okR A N c 1 p la HNe.out bad _ (HS.out.grow (GetAt.new (A := A) (N := N) (c := c) (p := p) (bad := bad)).ext) hl hp (by omega)).mono ?_
  rintro e w1 ⟨hx, kd, p1, bad1, rfl, hp1, hN1⟩
  have G1 := Lib.hid ((GetAt.new (A := A) (N := N) (c := c) (p := p) (bad := bad)).call hx)
  have hkd : kd < 256 := by simpa using hN1.2.2.2.1
  have HN1 := Lib.hid hN1
  clear hx hN1
  by_cases hdeep : 50 < deep
  · have t0 : decide ((50 : Int) < deep) = true := by simp; omega
    have hm0 : m = 0 := by omega
    subst hm0
    clear hdeep
    have HAt := plain_all w kd false 0 ByteArray.empty ByteArray.empty ByteArray.empty (by constructor <;> omega) (by constructor <;> omega) empty_le empty_le empty_le
    have HOne := Lib.hid (HAt.out w).one
    go_wp2_with (first | (refine wpList_store_whole rfl 84 (.tmp 2) (.tmp 17) rfl w.heap.size rfl [.slice A N c, .int .i64 (p1 : Nat), .bool bad1] rfl Try.sizeRd rfl 84 _ G1.out.r rfl (rd_one A N c p1 bad1) ?_; intro w2 hw2; have G2 := Lib.hid (G1.out.setR hw2); clear hw2) | (refine wpList_store_one rfl 3 (.tmp 19) (.tmp 18) rfl (w.heap.size + 3) 0 rfl (.int .i64 (kd : Nat)) (by first | rfl | simp) rfl rfl Try.sizeI3 27 _ G2.out.v (by simp [zeroCells]) ?_; intro w3 hh2 hg2; have G3 : Hid (GetAt w w3 A N c p1 bad1 [.int .i64 kd, .bool false, .int .i64 0, .string ByteArray.empty, .string ByteArray.empty, .string ByteArray.empty, .slice none 0 0, .slice none 0 0]) := Lib.hid (G2.out.setV hh2 hg2); clear hh2 hg2; have f0 : w3.cell? ⟨w.heap.size + 3, 0, none⟩ = some (.int .i64 kd) := by rw [cell_of_row _ _ _ _ _ _ G3.out.v]; rfl) | (refine wpList_store_one rfl 4 (.tmp 32) _ rfl w.heap.size 2 rfl (.bool true) rfl rfl rfl Try.sizeB4 84 _ G3.out.r (by simp) ?_; intro w4 hh2 hg2; have G4 := Lib.hid (G3.out.setBad hh2 hg2); clear hh2 hg2))
    refine ret_region 33 34 _ _ _ _ rfl G4.out rfl HOne.out rfl rfl rfl rfl (by kernel_rfl) (by kernel_rfl) (by kernel_rfl) (by kernel_rfl) rfl rfl rfl rfl ?_
    intro y0 y1 y2 y3 W hW4 hW5 hWx hWs hWb
    have HW4 := Lib.hid hW4
    have HW5 := Lib.hid hW5
    have HWx := Lib.hid hWx
    have HWb := Lib.hid hWb
    clear hW4 hW5 hWx hWb
    simp only [List.take, List.drop, putAll]
    go_wp2_with fail
    exact bodyPost_ret (v := .tuple #[(Value.agg #[Value.slice A N c, Value.int IntKind.i64 (((p1) : Nat) : Int), Value.bool true]), .agg [.int .i64 kd, .bool false, .int .i64 0, .string ByteArray.empty, .string ByteArray.empty, .string ByteArray.empty, .slice none 0 0, .slice none 0 0].toArray]) (results_two (cs := [.slice A N c, .int .i64 (p1 : Nat), .bool true]) (ds := [.int .i64 kd, .bool false, .int .i64 0, .string ByteArray.empty, .string ByteArray.empty, .string ByteArray.empty, .slice none 0 0, .slice none 0 0]) Try.results62 rfl rfl Try.aggRd Try.sizeRd rfl (fun j v hj => by rw [cell_of_row _ _ _ _ _ _ HW4.out, Nat.zero_add]; simpa using hj) Try.agg27 Try.size27 rfl (fun j v hj => by rw [cell_of_row _ _ _ _ _ _ HW5.out, Nat.zero_add]; simpa using hj)) rfl ⟨HWx.out, .mk kd false 0 empty empty empty [] [], [.int .i64 kd, .bool false, .int .i64 0, .string ByteArray.empty, .string ByteArray.empty, .string ByteArray.empty, .slice none 0 0, .slice none 0 0], p1, true, rfl, hp1, reads_deep HN1.out.2.1 (by unfold Val.dep; split <;> simp [Val.deps]), HAt.out W⟩
  have t0 : decide ((50 : Int) < deep) = false := by simp; omega
  have hd50 : deep ≤ 50 := by omega
  clear hdeep
  by_cases hk0 : kd < 1
  · have HK := Lib.hid hk0
    have t1 : decide ((kd : Int) < 1) = true := by simp; omega
    clear hk0
    have HAt := plain_all w kd false 0 ByteArray.empty ByteArray.empty ByteArray.empty (by constructor <;> omega) (by constructor <;> omega) empty_le empty_le empty_le
    have HOne := Lib.hid (HAt.out w).one
    go_wp2_with (first | (refine wpList_store_whole rfl 84 (.tmp 2) (.tmp 17) rfl w.heap.size rfl [.slice A N c, .int .i64 (p1 : Nat), .bool bad1] rfl Try.sizeRd rfl 84 _ G1.out.r rfl (rd_one A N c p1 bad1) ?_; intro w2 hw2; have G2 := Lib.hid (G1.out.setR hw2); clear hw2) | (refine wpList_store_one rfl 3 (.tmp 19) (.tmp 18) rfl (w.heap.size + 3) 0 rfl (.int .i64 (kd : Nat)) (by first | rfl | simp) rfl rfl Try.sizeI3 27 _ G2.out.v (by simp [zeroCells]) ?_; intro w3 hh2 hg2; have G3 : Hid (GetAt w w3 A N c p1 bad1 [.int .i64 kd, .bool false, .int .i64 0, .string ByteArray.empty, .string ByteArray.empty, .string ByteArray.empty, .slice none 0 0, .slice none 0 0]) := Lib.hid (G2.out.setV hh2 hg2); clear hh2 hg2; have f0 : w3.cell? ⟨w.heap.size + 3, 0, none⟩ = some (.int .i64 kd) := by rw [cell_of_row _ _ _ _ _ _ G3.out.v]; rfl) | (refine wpList_store_one rfl 4 (.tmp 32) _ rfl w.heap.size 2 rfl (.bool true) rfl rfl rfl Try.sizeB4 84 _ G3.out.r (by simp) ?_; intro w4 hh2 hg2; have G4 := Lib.hid (G3.out.setBad hh2 hg2); clear hh2 hg2))
    refine ret_region 33 34 _ _ _ _ rfl G4.out rfl HOne.out rfl rfl rfl rfl (by kernel_rfl) (by kernel_rfl) (by kernel_rfl) (by kernel_rfl) rfl rfl rfl rfl ?_
    intro y0 y1 y2 y3 W hW4 hW5 hWx hWs hWb
    have HW4 := Lib.hid hW4
    have HW5 := Lib.hid hW5
    have HWx := Lib.hid hWx
    have HWb := Lib.hid hWb
    clear hW4 hW5 hWx hWb
    simp only [List.take, List.drop, putAll]
    go_wp2_with fail
    exact bodyPost_ret (v := .tuple #[(Value.agg #[Value.slice A N c, Value.int IntKind.i64 (((p1) : Nat) : Int), Value.bool true]), .agg [.int .i64 kd, .bool false, .int .i64 0, .string ByteArray.empty, .string ByteArray.empty, .string ByteArray.empty, .slice none 0 0, .slice none 0 0].toArray]) (results_two (cs := [.slice A N c, .int .i64 (p1 : Nat), .bool true]) (ds := [.int .i64 kd, .bool false, .int .i64 0, .string ByteArray.empty, .string ByteArray.empty, .string ByteArray.empty, .slice none 0 0, .slice none 0 0]) Try.results62 rfl rfl Try.aggRd Try.sizeRd rfl (fun j v hj => by rw [cell_of_row _ _ _ _ _ _ HW4.out, Nat.zero_add]; simpa using hj) Try.agg27 Try.size27 rfl (fun j v hj => by rw [cell_of_row _ _ _ _ _ _ HW5.out, Nat.zero_add]; simpa using hj)) rfl ⟨HWx.out, .mk kd false 0 empty empty empty [] [], [.int .i64 kd, .bool false, .int .i64 0, .string ByteArray.empty, .string ByteArray.empty, .string ByteArray.empty, .slice none 0 0, .slice none 0 0], p1, true, rfl, hp1, reads_none HN1.out (by have := HK.out; omega) (by unfold Val.dep; split <;> simp [Val.deps]), HAt.out W⟩
  by_cases hk7 : 6 < kd
  · have HK := Lib.hid hk7
    have t1 : decide ((kd : Int) < 1) = false := by simp; omega
    have t2 : decide ((6 : Int) < kd) = true := by simp; omega
    clear hk7
    have HAt := plain_all w kd false 0 ByteArray.empty ByteArray.empty ByteArray.empty (by constructor <;> omega) (by constructor <;> omega) empty_le empty_le empty_le
    have HOne := Lib.hid (HAt.out w).one
    go_wp2_with (first | (refine wpList_store_whole rfl 84 (.tmp 2) (.tmp 17) rfl w.heap.size rfl [.slice A N c, .int .i64 (p1 : Nat), .bool bad1] rfl Try.sizeRd rfl 84 _ G1.out.r rfl (rd_one A N c p1 bad1) ?_; intro w2 hw2; have G2 := Lib.hid (G1.out.setR hw2); clear hw2) | (refine wpList_store_one rfl 3 (.tmp 19) (.tmp 18) rfl (w.heap.size + 3) 0 rfl (.int .i64 (kd : Nat)) (by first | rfl | simp) rfl rfl Try.sizeI3 27 _ G2.out.v (by simp [zeroCells]) ?_; intro w3 hh2 hg2; have G3 : Hid (GetAt w w3 A N c p1 bad1 [.int .i64 kd, .bool false, .int .i64 0, .string ByteArray.empty, .string ByteArray.empty, .string ByteArray.empty, .slice none 0 0, .slice none 0 0]) := Lib.hid (G2.out.setV hh2 hg2); clear hh2 hg2; have f0 : w3.cell? ⟨w.heap.size + 3, 0, none⟩ = some (.int .i64 kd) := by rw [cell_of_row _ _ _ _ _ _ G3.out.v]; rfl) | (refine wpList_store_one rfl 4 (.tmp 32) _ rfl w.heap.size 2 rfl (.bool true) rfl rfl rfl Try.sizeB4 84 _ G3.out.r (by simp) ?_; intro w4 hh2 hg2; have G4 := Lib.hid (G3.out.setBad hh2 hg2); clear hh2 hg2))
    refine ret_region 33 34 _ _ _ _ rfl G4.out rfl HOne.out rfl rfl rfl rfl (by kernel_rfl) (by kernel_rfl) (by kernel_rfl) (by kernel_rfl) rfl rfl rfl rfl ?_
    intro y0 y1 y2 y3 W hW4 hW5 hWx hWs hWb
    have HW4 := Lib.hid hW4
    have HW5 := Lib.hid hW5
    have HWx := Lib.hid hWx
    have HWb := Lib.hid hWb
    clear hW4 hW5 hWx hWb
    simp only [List.take, List.drop, putAll]
    go_wp2_with fail
    exact bodyPost_ret (v := .tuple #[(Value.agg #[Value.slice A N c, Value.int IntKind.i64 (((p1) : Nat) : Int), Value.bool true]), .agg [.int .i64 kd, .bool false, .int .i64 0, .string ByteArray.empty, .string ByteArray.empty, .string ByteArray.empty, .slice none 0 0, .slice none 0 0].toArray]) (results_two (cs := [.slice A N c, .int .i64 (p1 : Nat), .bool true]) (ds := [.int .i64 kd, .bool false, .int .i64 0, .string ByteArray.empty, .string ByteArray.empty, .string ByteArray.empty, .slice none 0 0, .slice none 0 0]) Try.results62 rfl rfl Try.aggRd Try.sizeRd rfl (fun j v hj => by rw [cell_of_row _ _ _ _ _ _ HW4.out, Nat.zero_add]; simpa using hj) Try.agg27 Try.size27 rfl (fun j v hj => by rw [cell_of_row _ _ _ _ _ _ HW5.out, Nat.zero_add]; simpa using hj)) rfl ⟨HWx.out, .mk kd false 0 empty empty empty [] [], [.int .i64 kd, .bool false, .int .i64 0, .string ByteArray.empty, .string ByteArray.empty, .string ByteArray.empty, .slice none 0 0, .slice none 0 0], p1, true, rfl, hp1, reads_none HN1.out (by have := HK.out; omega) (by unfold Val.dep; split <;> simp [Val.deps]), HAt.out W⟩
  by_cases hk1 : kd = 1
  · subst hk1
    go_wp2_with (first | (refine wpList_store_whole rfl 84 (.tmp 2) (.tmp 17) rfl w.heap.size rfl [.slice A N c, .int .i64 (p1 : Nat), .bool bad1] rfl Try.sizeRd rfl 84 _ G1.out.r rfl (rd_one A N c p1 bad1) ?_; intro w2 hw2; have G2 := Lib.hid (G1.out.setR hw2); clear hw2) | (refine wpList_store_one rfl 3 (.tmp 19) (.tmp 18) rfl (w.heap.size + 3) 0 rfl (.int .i64 1) (by first | rfl | simp) rfl rfl Try.sizeI3 27 _ G2.out.v (by simp [zeroCells]) ?_; intro w3 hh2 hg2; have G3 : Hid (GetAt w w3 A N c p1 bad1 [.int .i64 1, .bool false, .int .i64 0, .string ByteArray.empty, .string ByteArray.empty, .string ByteArray.empty, .slice none 0 0, .slice none 0 0]) := Lib.hid (G2.out.setV hh2 hg2); clear hh2 hg2; have f0 : w3.cell? ⟨w.heap.size + 3, 0, none⟩ = some (.int .i64 1) := by rw [cell_of_row _ _ _ _ _ _ G3.out.v]; rfl) | refine wpList_load_cells rfl 84 (.tmp 2) rfl w.heap.size 0 rfl Try.aggRd Try.sizeRd rfl G3.out.cellsR ?_)
    refine (next_okR A N c 1 p1 la HNe.out bad1 w3 (HS.out.grow G3.out.ext) hl hp1 (by omega)).mono ?_
    rintro e w4 ⟨hx, y, p2, bad2, rfl, hp2, hN2⟩
    have G4 := Lib.hid (G3.out.call hx)
    have HN2 := Lib.hid hN2
    clear hx hN2
    have HAt := plain_all w 1 ((y : Int) == 1) 0 ByteArray.empty ByteArray.empty ByteArray.empty (by constructor <;> omega) (by constructor <;> omega) empty_le empty_le empty_le
    have HOne := Lib.hid (HAt.out w).one
    go_wp2_with (first | (refine wpList_store_whole rfl 84 (.tmp 2) (.tmp 42) rfl w.heap.size rfl [.slice A N c, .int .i64 (p2 : Nat), .bool bad2] rfl Try.sizeRd rfl 84 _ G4.out.r rfl (rd_one A N c p2 bad2) ?_; intro w5 hw2; have G5 := Lib.hid (G4.out.setR hw2); clear hw2) | (refine wpList_store_one rfl 4 (.tmp 46) (.tmp 45) rfl (w.heap.size + 3) 1 rfl (.bool ((y : Int) == 1)) (by first | rfl | simp) rfl rfl Try.sizeB4 27 _ G5.out.v (by simp) ?_; intro w6 hh2 hg2; have G6 : Hid (GetAt w w6 A N c p2 bad2 [.int .i64 1, .bool ((y : Int) == 1), .int .i64 0, .string ByteArray.empty, .string ByteArray.empty, .string ByteArray.empty, .slice none 0 0, .slice none 0 0]) := Lib.hid (G5.out.setV hh2 hg2); clear hh2 hg2))
    refine ret_region 47 48 _ _ _ _ rfl G6.out rfl HOne.out rfl rfl rfl rfl (by kernel_rfl) (by kernel_rfl) (by kernel_rfl) (by kernel_rfl) rfl rfl rfl rfl ?_
    intro y0 y1 y2 y3 W hW4 hW5 hWx hWs hWb
    have HW4 := Lib.hid hW4
    have HW5 := Lib.hid hW5
    have HWx := Lib.hid hWx
    have HWb := Lib.hid hWb
    clear hW4 hW5 hWx hWb
    simp only [List.take, List.drop, putAll]
    go_wp2_with fail
    exact bodyPost_ret (v := .tuple #[(Value.agg #[Value.slice A N c, Value.int IntKind.i64 (((p2) : Nat) : Int), Value.bool bad2]), .agg [.int .i64 1, .bool ((y : Int) == 1), .int .i64 0, .string ByteArray.empty, .string ByteArray.empty, .string ByteArray.empty, .slice none 0 0, .slice none 0 0].toArray]) (results_two (cs := [.slice A N c, .int .i64 (p2 : Nat), .bool bad2]) (ds := [.int .i64 1, .bool ((y : Int) == 1), .int .i64 0, .string ByteArray.empty, .string ByteArray.empty, .string ByteArray.empty, .slice none 0 0, .slice none 0 0]) Try.results62 rfl rfl Try.aggRd Try.sizeRd rfl (fun j v hj => by rw [cell_of_row _ _ _ _ _ _ HW4.out, Nat.zero_add]; simpa using hj) Try.agg27 Try.size27 rfl (fun j v hj => by rw [cell_of_row _ _ _ _ _ _ HW5.out, Nat.zero_add]; simpa using hj)) rfl ⟨HWx.out, .mk 1 ((y : Int) == 1) 0 empty empty empty [] [], [.int .i64 1, .bool ((y : Int) == 1), .int .i64 0, .string ByteArray.empty, .string ByteArray.empty, .string ByteArray.empty, .slice none 0 0, .slice none 0 0], p2, bad2, rfl, hp2, reads_1 HN1.out HN2.out, HAt.out W⟩
  by_cases hk2 : kd = 2
  · subst hk2
    go_wp2_with (first | (refine wpList_store_whole rfl 84 (.tmp 2) (.tmp 17) rfl w.heap.size rfl [.slice A N c, .int .i64 (p1 : Nat), .bool bad1] rfl Try.sizeRd rfl 84 _ G1.out.r rfl (rd_one A N c p1 bad1) ?_; intro w2 hw2; have G2 := Lib.hid (G1.out.setR hw2); clear hw2) | (refine wpList_store_one rfl 3 (.tmp 19) (.tmp 18) rfl (w.heap.size + 3) 0 rfl (.int .i64 2) (by first | rfl | simp) rfl rfl Try.sizeI3 27 _ G2.out.v (by simp [zeroCells]) ?_; intro w3 hh2 hg2; have G3 : Hid (GetAt w w3 A N c p1 bad1 [.int .i64 2, .bool false, .int .i64 0, .string ByteArray.empty, .string ByteArray.empty, .string ByteArray.empty, .slice none 0 0, .slice none 0 0]) := Lib.hid (G2.out.setV hh2 hg2); clear hh2 hg2; have f0 : w3.cell? ⟨w.heap.size + 3, 0, none⟩ = some (.int .i64 2) := by rw [cell_of_row _ _ _ _ _ _ G3.out.v]; rfl) | refine wpList_load_cells rfl 84 (.tmp 2) rfl w.heap.size 0 rfl Try.aggRd Try.sizeRd rfl G3.out.cellsR ?_)
    refine (next_okR A N c 4 p1 la HNe.out bad1 w3 (HS.out.grow G3.out.ext) hl hp1 (by omega)).mono ?_
    rintro e w4 ⟨hx, y, p2, bad2, rfl, hp2, hN2⟩
    have G4 := Lib.hid (G3.out.call hx)
    have HN2 := Lib.hid hN2
    clear hx hN2
    go_wp2_with (first | (refine wpList_store_whole rfl 84 (.tmp 2) (.tmp 54) rfl w.heap.size rfl [.slice A N c, .int .i64 (p2 : Nat), .bool bad2] rfl Try.sizeRd rfl 84 _ G4.out.r rfl (rd_one A N c p2 bad2) ?_; intro w5 hw2; have G5 := Lib.hid (G4.out.setR hw2); clear hw2) | refine wpList_load_cells rfl 84 (.tmp 2) rfl w.heap.size 0 rfl Try.aggRd Try.sizeRd rfl G5.out.cellsR ?_)
    refine (next_okR A N c 4 p2 la HNe.out bad2 w5 (HS.out.grow G5.out.ext) hl hp2 (by omega)).mono ?_
    rintro e w6 ⟨hx, z, p3, bad3, rfl, hp3, hN3⟩
    have G6 := Lib.hid (G5.out.call hx)
    have HN3 := Lib.hid hN3
    clear hx hN3
    have hy4 : y < 4294967296 := by simpa using HN2.out.2.2.2.1
    have hz4 : z < 4294967296 := by simpa using HN3.out.2.2.2.1
    have HAt := plain_all w 2 false (wrap64 (y * 4294967296 + z : Nat)) ByteArray.empty ByteArray.empty ByteArray.empty (by constructor <;> omega) (i64_wrap_in _) empty_le empty_le empty_le
    have HOne := Lib.hid (HAt.out w).one
    have e1 : IntKind.u64.wrap (y : Int) = y := u64_in_nat y (by omega)
    have e2 : IntKind.u64.wrap (z : Int) = z := u64_in_nat z (by omega)
    have e3 : IntKind.u64.wrap ((y : Int) * 4294967296) = ((y * 4294967296 : Nat) : Int) := by rw [show (y : Int) * 4294967296 = ((y * 4294967296 : Nat) : Int) by omega]; exact u64_in_nat _ (by omega)
    have e4 : IntKind.u64.wrap (((y * 4294967296 : Nat) : Int) + z) = ((y * 4294967296 + z : Nat) : Int) := by rw [show ((y * 4294967296 : Nat) : Int) + z = ((y * 4294967296 + z : Nat) : Int) by omega]; exact u64_in_nat _ (by omega)
    go_wp2_with (first | (refine wpList_store_whole rfl 84 (.tmp 2) (.tmp 59) rfl w.heap.size rfl [.slice A N c, .int .i64 (p3 : Nat), .bool bad3] rfl Try.sizeRd rfl 84 _ G6.out.r rfl (rd_one A N c p3 bad3) ?_; intro w7 hw2; have G7 := Lib.hid (G6.out.setR hw2); clear hw2) | (refine wpList_store_one rfl 2 (.tmp 68) (.tmp 67) rfl (w.heap.size + 3) 2 rfl (.int .i64 (wrap64 (y * 4294967296 + z : Nat))) (by first | rfl | simp) rfl rfl Try.sizeI2 27 _ G7.out.v (by simp) ?_; intro w8 hh2 hg2; have G8 : Hid (GetAt w w8 A N c p3 bad3 [.int .i64 2, .bool false, .int .i64 (wrap64 (y * 4294967296 + z : Nat)), .string ByteArray.empty, .string ByteArray.empty, .string ByteArray.empty, .slice none 0 0, .slice none 0 0]) := Lib.hid (G7.out.setV hh2 hg2); clear hh2 hg2))
    refine ret_region 69 70 _ _ _ _ rfl G8.out rfl HOne.out rfl rfl rfl rfl (by kernel_rfl) (by kernel_rfl) (by kernel_rfl) (by kernel_rfl) rfl rfl rfl rfl ?_
    intro y0 y1 y2 y3 W hW4 hW5 hWx hWs hWb
    have HW4 := Lib.hid hW4
    have HW5 := Lib.hid hW5
    have HWx := Lib.hid hWx
    have HWb := Lib.hid hWb
    clear hW4 hW5 hWx hWb
    simp only [List.take, List.drop, putAll]
    go_wp2_with fail
    exact bodyPost_ret (v := .tuple #[(Value.agg #[Value.slice A N c, Value.int IntKind.i64 (((p3) : Nat) : Int), Value.bool bad3]), .agg [.int .i64 2, .bool false, .int .i64 (wrap64 (y * 4294967296 + z : Nat)), .string ByteArray.empty, .string ByteArray.empty, .string ByteArray.empty, .slice none 0 0, .slice none 0 0].toArray]) (results_two (cs := [.slice A N c, .int .i64 (p3 : Nat), .bool bad3]) (ds := [.int .i64 2, .bool false, .int .i64 (wrap64 (y * 4294967296 + z : Nat)), .string ByteArray.empty, .string ByteArray.empty, .string ByteArray.empty, .slice none 0 0, .slice none 0 0]) Try.results62 rfl rfl Try.aggRd Try.sizeRd rfl (fun j v hj => by rw [cell_of_row _ _ _ _ _ _ HW4.out, Nat.zero_add]; simpa using hj) Try.agg27 Try.size27 rfl (fun j v hj => by rw [cell_of_row _ _ _ _ _ _ HW5.out, Nat.zero_add]; simpa using hj)) rfl ⟨HWx.out, .mk 2 false (wrap64 (y * 4294967296 + z : Nat)) empty empty empty [] [], [.int .i64 2, .bool false, .int .i64 (wrap64 (y * 4294967296 + z : Nat)), .string ByteArray.empty, .string ByteArray.empty, .string ByteArray.empty, .slice none 0 0, .slice none 0 0], p3, bad3, rfl, hp3, reads_2 HN1.out (readsN_join HN2.out HN3.out), HAt.out W⟩
  by_cases hk3 : kd = 3
  · subst hk3
    go_wp2_with (first | (refine wpList_store_whole rfl 84 (.tmp 2) (.tmp 17) rfl w.heap.size rfl [.slice A N c, .int .i64 (p1 : Nat), .bool bad1] rfl Try.sizeRd rfl 84 _ G1.out.r rfl (rd_one A N c p1 bad1) ?_; intro w2 hw2; have G2 := Lib.hid (G1.out.setR hw2); clear hw2) | (refine wpList_store_one rfl 3 (.tmp 19) (.tmp 18) rfl (w.heap.size + 3) 0 rfl (.int .i64 3) (by first | rfl | simp) rfl rfl Try.sizeI3 27 _ G2.out.v (by simp [zeroCells]) ?_; intro w3 hh2 hg2; have G3 : Hid (GetAt w w3 A N c p1 bad1 [.int .i64 3, .bool false, .int .i64 0, .string ByteArray.empty, .string ByteArray.empty, .string ByteArray.empty, .slice none 0 0, .slice none 0 0]) := Lib.hid (G2.out.setV hh2 hg2); clear hh2 hg2; have f0 : w3.cell? ⟨w.heap.size + 3, 0, none⟩ = some (.int .i64 3) := by rw [cell_of_row _ _ _ _ _ _ G3.out.v]; rfl) | refine wpList_load_cells rfl 84 (.tmp 2) rfl w.heap.size 0 rfl Try.aggRd Try.sizeRd rfl G3.out.cellsR ?_)
    refine (word_okR A N c p1 la HNe.out bad1 w3 (HS.out.grow G3.out.ext) hl hc hp1).mono ?_
    rintro e w4 ⟨hx, y, p2, bad2, rfl, hp2, hN2⟩
    have G4 := Lib.hid (G3.out.call hx)
    have HN2 := Lib.hid hN2
    clear hx hN2
    have hys : y.size ≤ maxLen := by have := HN2.out.2.2.1; rw [List.length_drop, ← HNe.out] at this; rw [maxLen_eq]; omega
    have HAt := plain_all w 3 false 0 y ByteArray.empty ByteArray.empty (by constructor <;> omega) (by constructor <;> omega) hys empty_le empty_le
    have HOne := Lib.hid (HAt.out w).one
    clear hys
    go_wp2_with (first | (refine wpList_store_whole rfl 84 (.tmp 2) (.tmp 76) rfl w.heap.size rfl [.slice A N c, .int .i64 (p2 : Nat), .bool bad2] rfl Try.sizeRd rfl 84 _ G4.out.r rfl (rd_one A N c p2 bad2) ?_; intro w5 hw2; have G5 := Lib.hid (G4.out.setR hw2); clear hw2) | (refine wpList_store_one rfl 9 (.tmp 78) (.tmp 77) rfl (w.heap.size + 3) 3 rfl (.string y) (by first | rfl | simp) rfl rfl Try.sizeS9 27 _ G5.out.v (by simp) ?_; intro w6 hh2 hg2; have G6 : Hid (GetAt w w6 A N c p2 bad2 [.int .i64 3, .bool false, .int .i64 0, .string y, .string ByteArray.empty, .string ByteArray.empty, .slice none 0 0, .slice none 0 0]) := Lib.hid (G5.out.setV hh2 hg2); clear hh2 hg2))
    refine ret_region 79 80 _ _ _ _ rfl G6.out rfl HOne.out rfl rfl rfl rfl (by kernel_rfl) (by kernel_rfl) (by kernel_rfl) (by kernel_rfl) rfl rfl rfl rfl ?_
    intro y0 y1 y2 y3 W hW4 hW5 hWx hWs hWb
    have HW4 := Lib.hid hW4
    have HW5 := Lib.hid hW5
    have HWx := Lib.hid hWx
    have HWb := Lib.hid hWb
    clear hW4 hW5 hWx hWb
    simp only [List.take, List.drop, putAll]
    go_wp2_with fail
    exact bodyPost_ret (v := .tuple #[(Value.agg #[Value.slice A N c, Value.int IntKind.i64 (((p2) : Nat) : Int), Value.bool bad2]), .agg [.int .i64 3, .bool false, .int .i64 0, .string y, .string ByteArray.empty, .string ByteArray.empty, .slice none 0 0, .slice none 0 0].toArray]) (results_two (cs := [.slice A N c, .int .i64 (p2 : Nat), .bool bad2]) (ds := [.int .i64 3, .bool false, .int .i64 0, .string y, .string ByteArray.empty, .string ByteArray.empty, .slice none 0 0, .slice none 0 0]) Try.results62 rfl rfl Try.aggRd Try.sizeRd rfl (fun j v hj => by rw [cell_of_row _ _ _ _ _ _ HW4.out, Nat.zero_add]; simpa using hj) Try.agg27 Try.size27 rfl (fun j v hj => by rw [cell_of_row _ _ _ _ _ _ HW5.out, Nat.zero_add]; simpa using hj)) rfl ⟨HWx.out, .mk 3 false 0 y empty empty [] [], [.int .i64 3, .bool false, .int .i64 0, .string y, .string ByteArray.empty, .string ByteArray.empty, .slice none 0 0, .slice none 0 0], p2, bad2, rfl, hp2, reads_3 HN1.out HN2.out, HAt.out W⟩
  by_cases hk4 : kd = 4
  · subst hk4
    go_wp2_with (first | (refine wpList_store_whole rfl 84 (.tmp 2) (.tmp 17) rfl w.heap.size rfl [.slice A N c, .int .i64 (p1 : Nat), .bool bad1] rfl Try.sizeRd rfl 84 _ G1.out.r rfl (rd_one A N c p1 bad1) ?_; intro w2 hw2; have G2 := Lib.hid (G1.out.setR hw2); clear hw2) | (refine wpList_store_one rfl 3 (.tmp 19) (.tmp 18) rfl (w.heap.size + 3) 0 rfl (.int .i64 4) (by first | rfl | simp) rfl rfl Try.sizeI3 27 _ G2.out.v (by simp [zeroCells]) ?_; intro w3 hh2 hg2; have G3 : Hid (GetAt w w3 A N c p1 bad1 [.int .i64 4, .bool false, .int .i64 0, .string ByteArray.empty, .string ByteArray.empty, .string ByteArray.empty, .slice none 0 0, .slice none 0 0]) := Lib.hid (G2.out.setV hh2 hg2); clear hh2 hg2; have f0 : w3.cell? ⟨w.heap.size + 3, 0, none⟩ = some (.int .i64 4) := by rw [cell_of_row _ _ _ _ _ _ G3.out.v]; rfl) | refine wpList_load_cells rfl 84 (.tmp 2) rfl w.heap.size 0 rfl Try.aggRd Try.sizeRd rfl G3.out.cellsR ?_)
    refine (word_okR A N c p1 la HNe.out bad1 w3 (HS.out.grow G3.out.ext) hl hc hp1).mono ?_
    rintro e w4 ⟨hx, y, p2, bad2, rfl, hp2, hN2⟩
    have G4 := Lib.hid (G3.out.call hx)
    have HN2 := Lib.hid hN2
    clear hx hN2
    go_wp2_with (first | (refine wpList_store_whole rfl 84 (.tmp 2) (.tmp 86) rfl w.heap.size rfl [.slice A N c, .int .i64 (p2 : Nat), .bool bad2] rfl Try.sizeRd rfl 84 _ G4.out.r rfl (rd_one A N c p2 bad2) ?_; intro w5 hw2; have G5 := Lib.hid (G4.out.setR hw2); clear hw2) | (refine wpList_store_one rfl 9 (.tmp 89) (.tmp 87) rfl (w.heap.size + 3) 4 rfl (.string y) (by first | rfl | simp) rfl rfl Try.sizeS9 27 _ G5.out.v (by simp) ?_; intro w6 hh2 hg2; have G6 : Hid (GetAt w w6 A N c p2 bad2 [.int .i64 4, .bool false, .int .i64 0, .string ByteArray.empty, .string y, .string ByteArray.empty, .slice none 0 0, .slice none 0 0]) := Lib.hid (G5.out.setV hh2 hg2); clear hh2 hg2) | refine wpList_load_cells rfl 84 (.tmp 2) rfl w.heap.size 0 rfl Try.aggRd Try.sizeRd rfl G6.out.cellsR ?_)
    refine (word_okR A N c p2 la HNe.out bad2 w6 (HS.out.grow G6.out.ext) hl hc hp2).mono ?_
    rintro e w7 ⟨hx, z, p3, bad3, rfl, hp3, hN3⟩
    have G7 := Lib.hid (G6.out.call hx)
    have HN3 := Lib.hid hN3
    clear hx hN3
    have hys : y.size ≤ maxLen := by have := HN2.out.2.2.1; rw [List.length_drop, ← HNe.out] at this; rw [maxLen_eq]; omega
    have hzs : z.size ≤ maxLen := by have := HN3.out.2.2.1; rw [List.length_drop, ← HNe.out] at this; rw [maxLen_eq]; omega
    have HAt := plain_all w 4 false 0 ByteArray.empty y z (by constructor <;> omega) (by constructor <;> omega) empty_le hys hzs
    have HOne := Lib.hid (HAt.out w).one
    clear hys hzs
    go_wp2_with (first | (refine wpList_store_whole rfl 84 (.tmp 2) (.tmp 93) rfl w.heap.size rfl [.slice A N c, .int .i64 (p3 : Nat), .bool bad3] rfl Try.sizeRd rfl 84 _ G7.out.r rfl (rd_one A N c p3 bad3) ?_; intro w8 hw2; have G8 := Lib.hid (G7.out.setR hw2); clear hw2) | (refine wpList_store_one rfl 9 (.tmp 96) (.tmp 94) rfl (w.heap.size + 3) 5 rfl (.string z) (by first | rfl | simp) rfl rfl Try.sizeS9 27 _ G8.out.v (by simp) ?_; intro w9 hh2 hg2; have G9 : Hid (GetAt w w9 A N c p3 bad3 [.int .i64 4, .bool false, .int .i64 0, .string ByteArray.empty, .string y, .string z, .slice none 0 0, .slice none 0 0]) := Lib.hid (G8.out.setV hh2 hg2); clear hh2 hg2))
    refine ret_region 97 98 _ _ _ _ rfl G9.out rfl HOne.out rfl rfl rfl rfl (by kernel_rfl) (by kernel_rfl) (by kernel_rfl) (by kernel_rfl) rfl rfl rfl rfl ?_
    intro y0 y1 y2 y3 W hW4 hW5 hWx hWs hWb
    have HW4 := Lib.hid hW4
    have HW5 := Lib.hid hW5
    have HWx := Lib.hid hWx
    have HWb := Lib.hid hWb
    clear hW4 hW5 hWx hWb
    simp only [List.take, List.drop, putAll]
    go_wp2_with fail
    exact bodyPost_ret (v := .tuple #[(Value.agg #[Value.slice A N c, Value.int IntKind.i64 (((p3) : Nat) : Int), Value.bool bad3]), .agg [.int .i64 4, .bool false, .int .i64 0, .string ByteArray.empty, .string y, .string z, .slice none 0 0, .slice none 0 0].toArray]) (results_two (cs := [.slice A N c, .int .i64 (p3 : Nat), .bool bad3]) (ds := [.int .i64 4, .bool false, .int .i64 0, .string ByteArray.empty, .string y, .string z, .slice none 0 0, .slice none 0 0]) Try.results62 rfl rfl Try.aggRd Try.sizeRd rfl (fun j v hj => by rw [cell_of_row _ _ _ _ _ _ HW4.out, Nat.zero_add]; simpa using hj) Try.agg27 Try.size27 rfl (fun j v hj => by rw [cell_of_row _ _ _ _ _ _ HW5.out, Nat.zero_add]; simpa using hj)) rfl ⟨HWx.out, .mk 4 false 0 empty y z [] [], [.int .i64 4, .bool false, .int .i64 0, .string ByteArray.empty, .string y, .string z, .slice none 0 0, .slice none 0 0], p3, bad3, rfl, hp3, reads_4 HN1.out HN2.out HN3.out, HAt.out W⟩
  by_cases hk5 : kd = 5
  · subst hk5
    obtain ⟨m', rfl⟩ : ∃ m', m = m' + 1 := ⟨m - 1, by omega⟩
    go_wp2_with (first | (refine wpList_store_whole rfl 84 (.tmp 2) (.tmp 17) rfl w.heap.size rfl [.slice A N c, .int .i64 (p1 : Nat), .bool bad1] rfl Try.sizeRd rfl 84 _ G1.out.r rfl (rd_one A N c p1 bad1) ?_; intro w2 hw2; have G2 := Lib.hid (G1.out.setR hw2); clear hw2) | (refine wpList_store_one rfl 3 (.tmp 19) (.tmp 18) rfl (w.heap.size + 3) 0 rfl (.int .i64 5) (by first | rfl | simp) rfl rfl Try.sizeI3 27 _ G2.out.v (by simp [zeroCells]) ?_; intro w3 hh2 hg2; have G3 : Hid (GetAt w w3 A N c p1 bad1 [.int .i64 5, .bool false, .int .i64 0, .string ByteArray.empty, .string ByteArray.empty, .string ByteArray.empty, .slice none 0 0, .slice none 0 0]) := Lib.hid (G2.out.setV hh2 hg2); clear hh2 hg2; have f0 : w3.cell? ⟨w.heap.size + 3, 0, none⟩ = some (.int .i64 5) := by rw [cell_of_row _ _ _ _ _ _ G3.out.v]; rfl) | refine wpList_load_cells rfl 84 (.tmp 2) rfl w.heap.size 0 rfl Try.aggRd Try.sizeRd rfl G3.out.cellsR ?_)
    refine (next_okR A N c 4 p1 la HNe.out bad1 w3 (HS.out.grow G3.out.ext) hl hp1 (by omega)).mono ?_
    rintro e w4 ⟨hx, n0, p2, bad2, rfl, hp2, hN2⟩
    have G4 := Lib.hid (G3.out.call hx)
    have HN2 := Lib.hid hN2
    clear hx hN2
    have hn0 : n0 < 4294967296 := by simpa using HN2.out.2.2.2.1
    have HRl : Hid (ReadsL false (la.drop p) bad (m' + 1) [] [] n0 (la.drop p2) bad2) := Lib.hid (ReadsL.start HN1.out HN2.out)
    obtain ⟨iV, hiV, hzV, hsV, hbV⟩ := info_parts Try.info27
    obtain ⟨iS, hiS, hzS, hsS, hbS⟩ := info_parts Try.info9
    clear f0
    go_wp2_with (first | (refine wpList_store_whole rfl 84 (.tmp 2) (.tmp 102) rfl w.heap.size rfl [.slice A N c, .int .i64 (p2 : Nat), .bool bad2] rfl Try.sizeRd rfl 84 _ G4.out.r rfl (rd_one A N c p2 bad2) ?_; intro w5 hw2; have G5 := Lib.hid (G4.out.setR hw2); clear hw2))
    go_loopw [11] (fun u11 wr => ∃ k : Nat, u11 = .int .i64 k ∧ k ≤ n0 ∧ Hid (∃ (L : List Val) (M : List ByteArray) (pk : Nat) (badk : Bool), Rdg w5 w.heap.size (w.heap.size + 3) 5 L M wr ∧ wr.heap[w.heap.size]? = some (Obj.cells #[Value.slice A N c, Value.int IntKind.i64 (((pk) : Nat) : Int), Value.bool badk] 84) ∧ pk ≤ N ∧ ReadsL false (la.drop p) bad (m' + 1) L M (n0 - k) (la.drop pk) badk ∧ L.length ≤ 65537 ∧ M.length ≤ 65537 ∧ (∀ s ∈ M, s.size ≤ 65536))) (fun u11 _ => n0 - (intOf u11).toNat)
    case atStart => exact ⟨0, rfl, Nat.zero_le _, Lib.hid ⟨[], [], p2, bad2, ⟨Off.refl _ _, .slice none 0 0, .slice none 0 0, [], G5.out.v, World.ownsRow_nil _ _ _ _, World.ownsRow_nil _ _ _ _, rfl⟩, G5.out.r, hp2, HRl.out, by simp, by simp, by simp⟩⟩
    case round =>
      obtain ⟨k, rfl, hk, HSt⟩ := hrel
      obtain ⟨L, M, pk, badk, hR, hrk, hpk, hRL, hL1, hM1, hMs⟩ := HSt.out
      have f1 : wr.cell? ⟨w.heap.size, 2, none⟩ = some (.bool badk) := by rw [cell_of_row _ _ _ _ _ _ hrk]; rfl
      by_cases hkn : k = n0
      · subst hkn
        obtain ⟨cc, hOc, hac⟩ := hR.fin (by constructor <;> omega) hL1 hM1 hMs
        obtain ⟨c0, c1, c2, c3, c4, c5, c6, c7, c8, c9, ca, cb, rfl⟩ := hac.shape
        have GE : Hid (GetAt w wr A N c pk badk [.int .i64 c0, .bool c1, .int .i64 c2, .string c3, .string c4, .string c5, .slice c6 c7 c8, .slice c9 ca cb]) := Lib.hid (G5.out.off hR.off hrk hOc)
        have HRL := Lib.hid hRL
        have HAc := Lib.hid hac
        have HOne := Lib.hid hac.one
        have h54 := G5.out.size
        clear hOc hac hR hrk hRL hMs HSt
        go_wp2_with fail
        refine ret_region 141 142 _ _ _ _ rfl GE.out rfl HOne.out rfl rfl rfl rfl (by kernel_rfl) (by kernel_rfl) (by kernel_rfl) (by kernel_rfl) rfl rfl rfl rfl ?_
        intro y0 y1 y2 y3 W hW4 hW5 hWx hWs hWb
        have HW4 := Lib.hid hW4
        have HW5 := Lib.hid hW5
        have HWx := Lib.hid hWx
        have HWb := Lib.hid hWb
        clear hW4 hW5 hWx hWb
        simp only [List.take, List.drop, putAll]
        go_wp2_with fail
        exact bodyPost_ret (v := .tuple #[(Value.agg #[Value.slice A N c, Value.int IntKind.i64 (((pk) : Nat) : Int), Value.bool badk]), .agg [.int .i64 c0, .bool c1, .int .i64 c2, .string c3, .string c4, .string c5, .slice c6 c7 c8, .slice c9 ca cb].toArray]) (results_two (cs := [.slice A N c, .int .i64 (pk : Nat), .bool badk]) (ds := [.int .i64 c0, .bool c1, .int .i64 c2, .string c3, .string c4, .string c5, .slice c6 c7 c8, .slice c9 ca cb]) Try.results62 rfl rfl Try.aggRd Try.sizeRd rfl (fun j v hj => by rw [cell_of_row _ _ _ _ _ _ HW4.out, Nat.zero_add]; simpa using hj) Try.agg27 Try.size27 rfl (fun j v hj => by rw [cell_of_row _ _ _ _ _ _ HW5.out, Nat.zero_add]; simpa using hj)) rfl ⟨HWx.out, .mk 5 false 0 empty empty empty L M, [.int .i64 c0, .bool c1, .int .i64 c2, .string c3, .string c4, .string c5, .slice c6 c7 c8, .slice c9 ca cb], pk, badk, rfl, hpk, ReadsL.done (rc := false) HN1.out HRL.out (.inl (by omega)), (HAc.out.alike (w' := W) fun b hb => HWb.out b hb.2 (by have := hb.1; omega) (by have := hb.1; omega)).mono fun b hb => ⟨by have := hb.1; omega, Nat.lt_of_lt_of_le hb.2 hWs⟩⟩
      · have t3 : decide ((k : Int) < n0) = true := by simp; omega
        cases badk with
        | true =>
          obtain ⟨cc, hOc, hac⟩ := hR.fin (by constructor <;> omega) hL1 hM1 hMs
          obtain ⟨c0, c1, c2, c3, c4, c5, c6, c7, c8, c9, ca, cb, rfl⟩ := hac.shape
          have GE : Hid (GetAt w wr A N c pk true [.int .i64 c0, .bool c1, .int .i64 c2, .string c3, .string c4, .string c5, .slice c6 c7 c8, .slice c9 ca cb]) := Lib.hid (G5.out.off hR.off hrk hOc)
          have HRL := Lib.hid hRL
          have HAc := Lib.hid hac
          have HOne := Lib.hid hac.one
          have h54 := G5.out.size
          clear hOc hac hR hrk hRL hMs HSt
          go_wp2_with fail
          refine ret_region 141 142 _ _ _ _ rfl GE.out rfl HOne.out rfl rfl rfl rfl (by kernel_rfl) (by kernel_rfl) (by kernel_rfl) (by kernel_rfl) rfl rfl rfl rfl ?_
          intro y0 y1 y2 y3 W hW4 hW5 hWx hWs hWb
          have HW4 := Lib.hid hW4
          have HW5 := Lib.hid hW5
          have HWx := Lib.hid hWx
          have HWb := Lib.hid hWb
          clear hW4 hW5 hWx hWb
          simp only [List.take, List.drop, putAll]
          go_wp2_with fail
          exact bodyPost_ret (v := .tuple #[(Value.agg #[Value.slice A N c, Value.int IntKind.i64 (((pk) : Nat) : Int), Value.bool true]), .agg [.int .i64 c0, .bool c1, .int .i64 c2, .string c3, .string c4, .string c5, .slice c6 c7 c8, .slice c9 ca cb].toArray]) (results_two (cs := [.slice A N c, .int .i64 (pk : Nat), .bool true]) (ds := [.int .i64 c0, .bool c1, .int .i64 c2, .string c3, .string c4, .string c5, .slice c6 c7 c8, .slice c9 ca cb]) Try.results62 rfl rfl Try.aggRd Try.sizeRd rfl (fun j v hj => by rw [cell_of_row _ _ _ _ _ _ HW4.out, Nat.zero_add]; simpa using hj) Try.agg27 Try.size27 rfl (fun j v hj => by rw [cell_of_row _ _ _ _ _ _ HW5.out, Nat.zero_add]; simpa using hj)) rfl ⟨HWx.out, .mk 5 false 0 empty empty empty L M, [.int .i64 c0, .bool c1, .int .i64 c2, .string c3, .string c4, .string c5, .slice c6 c7 c8, .slice c9 ca cb], pk, true, rfl, hpk, ReadsL.done (rc := false) HN1.out HRL.out (.inr rfl), (HAc.out.alike (w' := W) fun b hb => HWb.out b hb.2 (by have := hb.1; omega) (by have := hb.1; omega)).mono fun b hb => ⟨by have := hb.1; omega, Nat.lt_of_lt_of_le hb.2 hWs⟩⟩
        | false =>
          have hlen := hRL.2.2.1 rfl
          have hLm := Val.masses_length L
          have hMm := nameSum_length M
          have hlk : (la.drop pk).length ≤ 65536 := by rw [List.length_drop, ← HNe.out]; omega
          have hlp : (la.drop p).length ≤ 65536 := by rw [List.length_drop, ← HNe.out]; omega
          have hL2 : L.length ≤ 65536 := by omega
          have hM2 : M.length ≤ 65536 := by omega
          obtain ⟨I, Nm, xs, hO, hI, hN, hf⟩ := hR.rows
          obtain ⟨AI, cI, rfl⟩ := own_shape hI
          obtain ⟨AN, cN, rfl⟩ := own_shape hN
          have f2 : wr.cell? ⟨w.heap.size + 3, 0, none⟩ = some (.int .i64 5) := by rw [cell_of_row _ _ _ _ _ _ hO]; rfl
          have HRL : Hid (ReadsL false (la.drop p) bad (m' + 1) L M ((n0 - (k + 1)) + 1) (la.drop pk) false) := Lib.hid (by rw [show (n0 - (k + 1)) + 1 = n0 - k by omega]; exact hRL)
          have GR : Hid (GetAt w wr A N c pk false [.int .i64 5, .bool false, .int .i64 0, .string ByteArray.empty, .string ByteArray.empty, .string ByteArray.empty, .slice AI L.length cI, .slice AN M.length cN]) := Lib.hid (G5.out.off hR.off hrk hO)
          have HOff := Lib.hid hR.off
          have HMs := Lib.hid hMs
          have HI := Lib.hid hI
          have HN := Lib.hid hN
          have HF := Lib.hid hf
          clear hlen hLm hMm hL1 hM1 HSt hO hI hN hf hR hrk hRL hMs hlk hlp
          have GA := Lib.hid (GR.out.call ((Ext.refl wr).alloc (.cells zeroCells.toArray 27)))
          go_wp2_with (first | refine wpList_load_cells rfl 84 (.tmp 2) rfl w.heap.size 0 rfl Try.aggRd Try.sizeRd rfl GA.out.cellsR ?_)
          refine (IH.out m' rfl (deep + 1) (by omega) A N c pk la HNe.out false _ (HS.out.grow GA.out.ext) hl hc hpk).mono ?_
          rintro e w6 ⟨hx6, x, cs, p6, bad6, rfl, hp6, hrx, hxa⟩
          obtain ⟨x0, x1, x2, x3, x4, x5, x6, x7, x8, x9, xa, xb, rfl⟩ := hxa.shape
          have HF8 : Hid (∀ w7 w8, w7 = w6.setRow w.heap.size [.slice A N c, .int .i64 (p6 : Nat), .bool bad6].toArray → w8 = w7.setRow wr.heap.size [.int .i64 x0, .bool x1, .int .i64 x2, .string x3, .string x4, .string x5, .slice x6 x7 x8, .slice x9 xa xb].toArray → _) := Lib.hid fun w7 w8 e7 e8 => item_facts GR.out hx6 hxa e7 e8
          have HOneX := Lib.hid hxa.one
          have HRx := Lib.hid hrx
          have G6 := Lib.hid (GA.out.call hx6)
          have hWr : w5.heap.size ≤ wr.heap.size := HOff.out.size
          clear hx6 hxa hrx
          go_wp2_with (first | (refine wpList_store_whole rfl 84 (.tmp 2) (.tmp 133) rfl w.heap.size rfl [.slice A N c, .int .i64 (p6 : Nat), .bool bad6] rfl Try.sizeRd rfl 84 _ G6.out.r rfl (rd_one A N c p6 bad6) ?_; intro w7 hw2; have G7 := Lib.hid (G6.out.setR hw2); have HW7 := Lib.hid hw2; clear hw2) | (refine wpList_store_whole rfl 27 (.tmp 13) (.tmp 134) rfl wr.heap.size rfl [.int .i64 x0, .bool x1, .int .i64 x2, .string x3, .string x4, .string x5, .slice x6 x7 x8, .slice x9 xa xb] rfl Try.size27 rfl 27 _ (HF8.out w7 _ HW7.out rfl).1 rfl HOneX.out ?_; intro w8 hw8; have HW8 := Lib.hid (HF8.out w7 w8 HW7.out hw8).2; have f4 : w8.cell? ⟨w.heap.size + 3, 6, none⟩ = some (.slice AI L.length cI) := (by rw [cell_of_row _ _ _ _ _ _ HW8.out.1.v]; rfl); clear hw8) | refine wpList_load_cells rfl 27 (.tmp 13) rfl wr.heap.size 0 rfl Try.agg27 Try.size27 rfl HW8.out.2.2.2 ?_ | (at_builtin; go_must (refine wpList_append_at rfl (.tmp 136) (.tmp 138) 24 rfl w5.heap.size 27 iV (.agg zeroCells.toArray) 8 120 Try.underlying24 hiV hzV hsV hbV rfl (by decide) (.slice AI L.length cI) L.length xs rfl (ownsRow_same HI.out fun b hb => (Below.heap_alloc w8 _ b (Nat.lt_of_lt_of_le (HI.out.lt b hb).2 HW8.out.2.1.size)).trans (HW8.out.2.1.block b (HI.out.lt b hb).2 (by have := (HI.out.lt b hb).1; have := G5.out.size; omega))) w8.heap.size 0 1 1 [.int .i64 x0, .bool x1, .int .i64 x2, .string x3, .string x4, .string x5, .slice x6 x7 x8, .slice x9 xa xb] rfl rfl (cellsAt_new _ _ rfl) HOneX.out (by rw [maxLen_eq]; omega) (by omega) (Nat.le_trans hWr (Nat.le_trans HW8.out.2.1.size (by simp))) ?_); intro R9 w9 hown hgr hbl; obtain ⟨E9, q9, rfl⟩ := own_shape hown; have HOwn := Lib.hid hown; have HGr := Lib.hid hgr; have HBl := Lib.hid hbl; clear hown hgr hbl; have HO9 : Hid (w9.heap[w.heap.size + 3]? = some (.cells [.int .i64 5, .bool false, .int .i64 0, .string ByteArray.empty, .string ByteArray.empty, .string ByteArray.empty, .slice AI L.length cI, .slice AN M.length cN].toArray 27 (0, 0))) := Lib.hid ((HGr.out.block _ (Nat.lt_of_lt_of_le (Blk_lt HW8.out.1.v) (by simp)) (fun e => by have := (HI.out.lt _ e.symm).1; have := G5.out.size; omega)).trans ((Below.heap_alloc w8 _ _ (Blk_lt HW8.out.1.v)).trans HW8.out.1.v)); clear f4) | (refine wpList_store_slice rfl 24 (.tmp 140) (.tmp 139) rfl (w.heap.size + 3) 6 rfl E9 _ q9 rfl Try.sizeSl 27 _ HO9.out (by simp) ?_; intro wy hOy hgy; have HOy := Lib.hid hOy; have HGy := Lib.hid hgy; clear hOy hgy))
          have h5s := G5.out.size
          have s8 := HW8.out.2.1.size
          have s9 : w8.heap.size + 1 ≤ w9.heap.size := by have := HGr.out.size; simpa using this
          have k9 : Off wr w9 (fun b => b = w.heap.size ∨ (Value.slice AI L.length cI).ownBlock = some b) := ((HW8.out.2.1.mono fun b hb => .inl hb).trans (Off.of_ext ((Ext.refl w8).alloc _) _)).trans (Off.of_grown HGr.out fun b e => .inr e)
          have hob : ∀ b, (Value.slice E9 (L.length + 1) q9).ownBlock = some b → (Value.slice AI L.length cI).ownBlock = some b ∨ w8.heap.size ≤ b := fun b hb => by
            rcases HBl.out with h | h
            · exact .inl (h ▸ hb)
            · rw [h] at hb; injection hb with hb; exact .inr (by rw [← hb]; simp)
          have hx9 : Val.At (fun b => wr.heap.size ≤ b ∧ b < w8.heap.size) w9 x [.int .i64 x0, .bool x1, .int .i64 x2, .string x3, .string x4, .string x5, .slice x6 x7 x8, .slice x9 xa xb] := HW8.out.2.2.1.alike fun b hb => (HGr.out.block b (Nat.lt_of_lt_of_le hb.2 (by simp)) (fun e => by have := (HI.out.lt _ e.symm).2; have := hb.1; omega)).trans (Below.heap_alloc w8 _ b hb.2)
          have hR2 : Rdg w5 w.heap.size (w.heap.size + 3) 5 (L ++ [x]) M wy := Rdg.push_item HOff.out (by omega) (by omega) HI.out HN.out HF.out k9 HOwn.out s8 (by omega) hob hx9 HOy.out HGy.out
          have hr9 : w9.heap[w.heap.size]? = w8.heap[w.heap.size]? := (HGr.out.block _ (Nat.lt_of_lt_of_le (Blk_lt HW8.out.1.r) (by simp)) (fun e => by have := (HI.out.lt _ e.symm).1; omega)).trans (Below.heap_alloc w8 _ _ (Blk_lt HW8.out.1.r))
          have hry : wy.heap[w.heap.size]? = some (Obj.cells #[Value.slice A N c, Value.int IntKind.i64 (((p6) : Nat) : Int), Value.bool bad6] 84) := (HGy.out.block _ (by have := Blk_lt HW8.out.1.r; omega) (fun e => by injection e with e; omega)).trans (hr9.trans HW8.out.1.r)
          have hRl2 := ReadsL.set HRL.out rfl (by omega) HRx.out
          have HFin : Hid (∃ (L : List Val) (M : List ByteArray) (pk : Nat) (badk : Bool), Rdg w5 w.heap.size (w.heap.size + 3) 5 L M wy ∧ wy.heap[w.heap.size]? = some (Obj.cells #[Value.slice A N c, Value.int IntKind.i64 (((pk) : Nat) : Int), Value.bool badk] 84) ∧ pk ≤ N ∧ ReadsL false (la.drop p) bad (m' + 1) L M (n0 - (k + 1)) (la.drop pk) badk ∧ L.length ≤ 65537 ∧ M.length ≤ 65537 ∧ (∀ s ∈ M, s.size ≤ 65536)) := Lib.hid ⟨_, _, _, _, hR2, hry, hp6, hRl2, by simp; omega, by omega, HMs.out⟩
          clear h5s s8 s9 k9 hob hx9 hR2 hr9 hry hRl2
          go_wp2_with fail
          go_roundw
          case rel => exact ⟨k + 1, by go_num, by omega, HFin⟩
          case measure => simp [intOf]; omega
  · have hk6 : kd = 6 := by omega
    subst hk6
    obtain ⟨m', rfl⟩ : ∃ m', m = m' + 1 := ⟨m - 1, by omega⟩
    go_wp2_with (first | (refine wpList_store_whole rfl 84 (.tmp 2) (.tmp 17) rfl w.heap.size rfl [.slice A N c, .int .i64 (p1 : Nat), .bool bad1] rfl Try.sizeRd rfl 84 _ G1.out.r rfl (rd_one A N c p1 bad1) ?_; intro w2 hw2; have G2 := Lib.hid (G1.out.setR hw2); clear hw2) | (refine wpList_store_one rfl 3 (.tmp 19) (.tmp 18) rfl (w.heap.size + 3) 0 rfl (.int .i64 6) (by first | rfl | simp) rfl rfl Try.sizeI3 27 _ G2.out.v (by simp [zeroCells]) ?_; intro w3 hh2 hg2; have G3 : Hid (GetAt w w3 A N c p1 bad1 [.int .i64 6, .bool false, .int .i64 0, .string ByteArray.empty, .string ByteArray.empty, .string ByteArray.empty, .slice none 0 0, .slice none 0 0]) := Lib.hid (G2.out.setV hh2 hg2); clear hh2 hg2; have f0 : w3.cell? ⟨w.heap.size + 3, 0, none⟩ = some (.int .i64 6) := by rw [cell_of_row _ _ _ _ _ _ G3.out.v]; rfl) | refine wpList_load_cells rfl 84 (.tmp 2) rfl w.heap.size 0 rfl Try.aggRd Try.sizeRd rfl G3.out.cellsR ?_)
    refine (next_okR A N c 4 p1 la HNe.out bad1 w3 (HS.out.grow G3.out.ext) hl hp1 (by omega)).mono ?_
    rintro e w4 ⟨hx, n0, p2, bad2, rfl, hp2, hN2⟩
    have G4 := Lib.hid (G3.out.call hx)
    have HN2 := Lib.hid hN2
    clear hx hN2
    have hn0 : n0 < 4294967296 := by simpa using HN2.out.2.2.2.1
    have HRl : Hid (ReadsL true (la.drop p) bad (m' + 1) [] [] n0 (la.drop p2) bad2) := Lib.hid (ReadsL.start HN1.out HN2.out)
    obtain ⟨iV, hiV, hzV, hsV, hbV⟩ := info_parts Try.info27
    obtain ⟨iS, hiS, hzS, hsS, hbS⟩ := info_parts Try.info9
    clear f0
    go_wp2_with (first | (refine wpList_store_whole rfl 84 (.tmp 2) (.tmp 102) rfl w.heap.size rfl [.slice A N c, .int .i64 (p2 : Nat), .bool bad2] rfl Try.sizeRd rfl 84 _ G4.out.r rfl (rd_one A N c p2 bad2) ?_; intro w5 hw2; have G5 := Lib.hid (G4.out.setR hw2); clear hw2))
    go_loopw [11] (fun u11 wr => ∃ k : Nat, u11 = .int .i64 k ∧ k ≤ n0 ∧ Hid (∃ (L : List Val) (M : List ByteArray) (pk : Nat) (badk : Bool), Rdg w5 w.heap.size (w.heap.size + 3) 6 L M wr ∧ wr.heap[w.heap.size]? = some (Obj.cells #[Value.slice A N c, Value.int IntKind.i64 (((pk) : Nat) : Int), Value.bool badk] 84) ∧ pk ≤ N ∧ ReadsL true (la.drop p) bad (m' + 1) L M (n0 - k) (la.drop pk) badk ∧ L.length ≤ 65537 ∧ M.length ≤ 65537 ∧ (∀ s ∈ M, s.size ≤ 65536))) (fun u11 _ => n0 - (intOf u11).toNat)
    case atStart => exact ⟨0, rfl, Nat.zero_le _, Lib.hid ⟨[], [], p2, bad2, ⟨Off.refl _ _, .slice none 0 0, .slice none 0 0, [], G5.out.v, World.ownsRow_nil _ _ _ _, World.ownsRow_nil _ _ _ _, rfl⟩, G5.out.r, hp2, HRl.out, by simp, by simp, by simp⟩⟩
    case round =>
      obtain ⟨k, rfl, hk, HSt⟩ := hrel
      obtain ⟨L, M, pk, badk, hR, hrk, hpk, hRL, hL1, hM1, hMs⟩ := HSt.out
      have f1 : wr.cell? ⟨w.heap.size, 2, none⟩ = some (.bool badk) := by rw [cell_of_row _ _ _ _ _ _ hrk]; rfl
      by_cases hkn : k = n0
      · subst hkn
        obtain ⟨cc, hOc, hac⟩ := hR.fin (by constructor <;> omega) hL1 hM1 hMs
        obtain ⟨c0, c1, c2, c3, c4, c5, c6, c7, c8, c9, ca, cb, rfl⟩ := hac.shape
        have GE : Hid (GetAt w wr A N c pk badk [.int .i64 c0, .bool c1, .int .i64 c2, .string c3, .string c4, .string c5, .slice c6 c7 c8, .slice c9 ca cb]) := Lib.hid (G5.out.off hR.off hrk hOc)
        have HRL := Lib.hid hRL
        have HAc := Lib.hid hac
        have HOne := Lib.hid hac.one
        have h54 := G5.out.size
        clear hOc hac hR hrk hRL hMs HSt
        go_wp2_with fail
        refine ret_region 141 142 _ _ _ _ rfl GE.out rfl HOne.out rfl rfl rfl rfl (by kernel_rfl) (by kernel_rfl) (by kernel_rfl) (by kernel_rfl) rfl rfl rfl rfl ?_
        intro y0 y1 y2 y3 W hW4 hW5 hWx hWs hWb
        have HW4 := Lib.hid hW4
        have HW5 := Lib.hid hW5
        have HWx := Lib.hid hWx
        have HWb := Lib.hid hWb
        clear hW4 hW5 hWx hWb
        simp only [List.take, List.drop, putAll]
        go_wp2_with fail
        exact bodyPost_ret (v := .tuple #[(Value.agg #[Value.slice A N c, Value.int IntKind.i64 (((pk) : Nat) : Int), Value.bool badk]), .agg [.int .i64 c0, .bool c1, .int .i64 c2, .string c3, .string c4, .string c5, .slice c6 c7 c8, .slice c9 ca cb].toArray]) (results_two (cs := [.slice A N c, .int .i64 (pk : Nat), .bool badk]) (ds := [.int .i64 c0, .bool c1, .int .i64 c2, .string c3, .string c4, .string c5, .slice c6 c7 c8, .slice c9 ca cb]) Try.results62 rfl rfl Try.aggRd Try.sizeRd rfl (fun j v hj => by rw [cell_of_row _ _ _ _ _ _ HW4.out, Nat.zero_add]; simpa using hj) Try.agg27 Try.size27 rfl (fun j v hj => by rw [cell_of_row _ _ _ _ _ _ HW5.out, Nat.zero_add]; simpa using hj)) rfl ⟨HWx.out, .mk 6 false 0 empty empty empty L M, [.int .i64 c0, .bool c1, .int .i64 c2, .string c3, .string c4, .string c5, .slice c6 c7 c8, .slice c9 ca cb], pk, badk, rfl, hpk, ReadsL.done (rc := true) HN1.out HRL.out (.inl (by omega)), (HAc.out.alike (w' := W) fun b hb => HWb.out b hb.2 (by have := hb.1; omega) (by have := hb.1; omega)).mono fun b hb => ⟨by have := hb.1; omega, Nat.lt_of_lt_of_le hb.2 hWs⟩⟩
      · have t3 : decide ((k : Int) < n0) = true := by simp; omega
        cases badk with
        | true =>
          obtain ⟨cc, hOc, hac⟩ := hR.fin (by constructor <;> omega) hL1 hM1 hMs
          obtain ⟨c0, c1, c2, c3, c4, c5, c6, c7, c8, c9, ca, cb, rfl⟩ := hac.shape
          have GE : Hid (GetAt w wr A N c pk true [.int .i64 c0, .bool c1, .int .i64 c2, .string c3, .string c4, .string c5, .slice c6 c7 c8, .slice c9 ca cb]) := Lib.hid (G5.out.off hR.off hrk hOc)
          have HRL := Lib.hid hRL
          have HAc := Lib.hid hac
          have HOne := Lib.hid hac.one
          have h54 := G5.out.size
          clear hOc hac hR hrk hRL hMs HSt
          go_wp2_with fail
          refine ret_region 141 142 _ _ _ _ rfl GE.out rfl HOne.out rfl rfl rfl rfl (by kernel_rfl) (by kernel_rfl) (by kernel_rfl) (by kernel_rfl) rfl rfl rfl rfl ?_
          intro y0 y1 y2 y3 W hW4 hW5 hWx hWs hWb
          have HW4 := Lib.hid hW4
          have HW5 := Lib.hid hW5
          have HWx := Lib.hid hWx
          have HWb := Lib.hid hWb
          clear hW4 hW5 hWx hWb
          simp only [List.take, List.drop, putAll]
          go_wp2_with fail
          exact bodyPost_ret (v := .tuple #[(Value.agg #[Value.slice A N c, Value.int IntKind.i64 (((pk) : Nat) : Int), Value.bool true]), .agg [.int .i64 c0, .bool c1, .int .i64 c2, .string c3, .string c4, .string c5, .slice c6 c7 c8, .slice c9 ca cb].toArray]) (results_two (cs := [.slice A N c, .int .i64 (pk : Nat), .bool true]) (ds := [.int .i64 c0, .bool c1, .int .i64 c2, .string c3, .string c4, .string c5, .slice c6 c7 c8, .slice c9 ca cb]) Try.results62 rfl rfl Try.aggRd Try.sizeRd rfl (fun j v hj => by rw [cell_of_row _ _ _ _ _ _ HW4.out, Nat.zero_add]; simpa using hj) Try.agg27 Try.size27 rfl (fun j v hj => by rw [cell_of_row _ _ _ _ _ _ HW5.out, Nat.zero_add]; simpa using hj)) rfl ⟨HWx.out, .mk 6 false 0 empty empty empty L M, [.int .i64 c0, .bool c1, .int .i64 c2, .string c3, .string c4, .string c5, .slice c6 c7 c8, .slice c9 ca cb], pk, true, rfl, hpk, ReadsL.done (rc := true) HN1.out HRL.out (.inr rfl), (HAc.out.alike (w' := W) fun b hb => HWb.out b hb.2 (by have := hb.1; omega) (by have := hb.1; omega)).mono fun b hb => ⟨by have := hb.1; omega, Nat.lt_of_lt_of_le hb.2 hWs⟩⟩
        | false =>
          have hlen := hRL.2.2.1 rfl
          have hLm := Val.masses_length L
          have hMm := nameSum_length M
          have hlk : (la.drop pk).length ≤ 65536 := by rw [List.length_drop, ← HNe.out]; omega
          have hlp : (la.drop p).length ≤ 65536 := by rw [List.length_drop, ← HNe.out]; omega
          have hL2 : L.length ≤ 65536 := by omega
          have hM2 : M.length ≤ 65536 := by omega
          obtain ⟨I, Nm, xs, hO, hI, hN, hf⟩ := hR.rows
          obtain ⟨AI, cI, rfl⟩ := own_shape hI
          obtain ⟨AN, cN, rfl⟩ := own_shape hN
          have f2 : wr.cell? ⟨w.heap.size + 3, 0, none⟩ = some (.int .i64 6) := by rw [cell_of_row _ _ _ _ _ _ hO]; rfl
          have HRL : Hid (ReadsL true (la.drop p) bad (m' + 1) L M ((n0 - (k + 1)) + 1) (la.drop pk) false) := Lib.hid (by rw [show (n0 - (k + 1)) + 1 = n0 - k by omega]; exact hRL)
          have GR : Hid (GetAt w wr A N c pk false [.int .i64 6, .bool false, .int .i64 0, .string ByteArray.empty, .string ByteArray.empty, .string ByteArray.empty, .slice AI L.length cI, .slice AN M.length cN]) := Lib.hid (G5.out.off hR.off hrk hO)
          have HOff := Lib.hid hR.off
          have HMs := Lib.hid hMs
          have HI := Lib.hid hI
          have HN := Lib.hid hN
          have HF := Lib.hid hf
          clear hlen hLm hMm hL1 hM1 HSt hO hI hN hf hR hrk hRL hMs hlk hlp
          go_wp2_with (first | refine wpList_load_cells rfl 84 (.tmp 2) rfl w.heap.size 0 rfl Try.aggRd Try.sizeRd rfl GR.out.cellsR ?_)
          refine (word_okR A N c pk la HNe.out false _ (HS.out.grow GR.out.ext) hl hc hpk).mono ?_
          rintro e w6 ⟨hx6, nm, p4, bad4, rfl, hp4, hT⟩
          have G6 := Lib.hid (GR.out.call hx6)
          have HF7 : Hid (∀ w7, w7 = w6.setRow w.heap.size [.slice A N c, .int .i64 (p4 : Nat), .bool bad4].toArray → _) := Lib.hid fun w7 e7 => name_facts GR.out hx6 e7
          have HT := Lib.hid hT
          clear hx6 hT
          go_wp2_with (first | (refine wpList_store_whole rfl 84 (.tmp 2) (.tmp 120) rfl w.heap.size rfl [.slice A N c, .int .i64 (p4 : Nat), .bool bad4] rfl Try.sizeRd rfl 84 _ G6.out.r rfl (rd_one A N c p4 bad4) ?_; intro w7 hw7; have HW7 := Lib.hid (HF7.out w7 hw7); have f5 : w7.cell? ⟨w.heap.size + 3, 7, none⟩ = some (.slice AN M.length cN) := (by rw [cell_of_row _ _ _ _ _ _ HW7.out.1.v]; rfl); clear hw7) | (at_builtin; go_must (refine wpList_append_at rfl (.tmp 123) (.tmp 125) 25 rfl w5.heap.size 9 iS (.string ByteArray.empty) 1 16 Try.underlying25 hiS hzS hsS hbS rfl (by decide) (.slice AN M.length cN) M.length (M.map Value.string) rfl (ownsRow_same HN.out fun b hb => (Below.heap_alloc w7 _ b (Nat.lt_of_lt_of_le (HN.out.lt b hb).2 HW7.out.2.size)).trans (HW7.out.2.block b (HN.out.lt b hb).2 (by have := (HN.out.lt b hb).1; have := G5.out.size; omega))) w7.heap.size 0 1 1 [.string nm] rfl rfl (cellsAt_new _ _ rfl) (by intro u hu; simp at hu; subst hu; rfl) (by rw [maxLen_eq]; omega) (by omega) (Nat.le_trans HOff.out.size (Nat.le_trans HW7.out.2.size (by simp))) ?_); intro R8 w8 hown hgr hbl; obtain ⟨E8, q8, rfl⟩ := own_shape hown; have HOwn := Lib.hid hown; have HGr := Lib.hid hgr; have HBl := Lib.hid hbl; clear hown hgr hbl; have HO8 : Hid (w8.heap[w.heap.size + 3]? = some (.cells [.int .i64 6, .bool false, .int .i64 0, .string ByteArray.empty, .string ByteArray.empty, .string ByteArray.empty, .slice AI L.length cI, .slice AN M.length cN].toArray 27 (0, 0))) := Lib.hid ((HGr.out.block _ (Nat.lt_of_lt_of_le (Blk_lt HW7.out.1.v) (by simp)) (fun e => by have := (HN.out.lt _ e.symm).1; have := G5.out.size; omega)).trans ((Below.heap_alloc w7 _ _ (Blk_lt HW7.out.1.v)).trans HW7.out.1.v)); clear f5) | (refine wpList_store_slice rfl 25 (.tmp 127) (.tmp 126) rfl (w.heap.size + 3) 7 rfl E8 _ q8 rfl Try.sizeSs 27 _ HO8.out (by simp) ?_; intro wn hOn hgn; have HOn := Lib.hid hOn; have HGn := Lib.hid hgn; clear hOn hgn; have GAn : Hid (GetAt w (wn.alloc (.cells zeroCells.toArray 27)) A N c p4 bad4 [.int .i64 6, .bool false, .int .i64 0, .string ByteArray.empty, .string ByteArray.empty, .string ByteArray.empty, .slice AI L.length cI, .slice E8 (M.length + 1) q8]) := Lib.hid ((((HW7.out.1.call ((Ext.refl w7).alloc (.cells [Value.string nm].toArray 9))).own HGr.out (fun b e => by have := (HN.out.lt _ e).1; have := G5.out.size; omega)).setV HOn.out HGn.out).call ((Ext.refl wn).alloc _))) | refine wpList_load_cells rfl 84 (.tmp 2) rfl w.heap.size 0 rfl Try.aggRd Try.sizeRd rfl GAn.out.cellsR ?_)
          have h5s := G5.out.size
          have k8 : Off wr w8 (fun b => b = w.heap.size ∨ (Value.slice AN M.length cN).ownBlock = some b) := ((HW7.out.2.mono fun b hb => .inl hb).trans (Off.of_ext ((Ext.refl w7).alloc _) _)).trans (Off.of_grown HGr.out fun b e => .inr e)
          have hob : ∀ b, (Value.slice E8 (M.length + 1) q8).ownBlock = some b → (Value.slice AN M.length cN).ownBlock = some b ∨ wr.heap.size ≤ b := fun b hb => by
            rcases HBl.out with h | h
            · exact .inl (h ▸ hb)
            · rw [h] at hb; injection hb with hb; exact .inr (by have := HW7.out.2.size; rw [← hb]; simp; omega)
          have hRn : Rdg w5 w.heap.size (w.heap.size + 3) 6 L (M ++ [nm]) wn := Rdg.push_name HOff.out (by omega) (by omega) HI.out HN.out HF.out k8 HOwn.out hob HOn.out HGn.out
          have hr8 : w8.heap[w.heap.size]? = w7.heap[w.heap.size]? := (HGr.out.block _ (Nat.lt_of_lt_of_le (Blk_lt HW7.out.1.r) (by simp)) (fun e => by have := (HN.out.lt _ e.symm).1; omega)).trans (Below.heap_alloc w7 _ _ (Blk_lt HW7.out.1.r))
          have s78 : w7.heap.size + 1 ≤ w8.heap.size := by have := HGr.out.size; simpa using this
          have hrn : wn.heap[w.heap.size]? = some (Obj.cells #[Value.slice A N c, Value.int IntKind.i64 (((p4) : Nat) : Int), Value.bool bad4] 84) := (HGn.out.block _ (by have := Blk_lt HW7.out.1.r; omega) (fun e => by injection e with e; omega)).trans (hr8.trans HW7.out.1.r)
          have hss : nm.size ≤ 65536 := by have := HT.out.2.2.1; rw [List.length_drop, ← HNe.out] at this; omega
          have hMs2 : ∀ t ∈ M ++ [nm], t.size ≤ 65536 := fun t ht => by
            rcases List.mem_append.1 ht with h | h
            · exact HMs.out t h
            · simp at h; subst h; exact hss
          obtain ⟨M2, hM2e⟩ : ∃ M2, M2 = M ++ [nm] := ⟨_, rfl⟩
          have hM3 : M2.length ≤ 65537 := by rw [hM2e]; simp; omega
          rw [← hM2e] at hRn hMs2
          have HM2e := Lib.hid hM2e
          obtain ⟨I', Nm', xs', hO, hI, hN, hf⟩ := hRn.rows
          have HOff' := Lib.hid hRn.off
          have HMs' := Lib.hid hMs2
          clear HOff HMs HI HN HF k8 hob hr8 hss hMs2 HW7 HOwn HGr HBl HO8 HOn HGn GAn h5s s78 hM2e f1 f2
          have HOff := HOff'
          have HMs := HMs'
          clear HOff' HMs'
          obtain ⟨AJ, cJ, rfl⟩ := own_shape hI
          obtain ⟨AM, cM, rfl⟩ := own_shape hN
          have GR' : Hid (GetAt w wn A N c p4 bad4 [.int .i64 6, .bool false, .int .i64 0, .string ByteArray.empty, .string ByteArray.empty, .string ByteArray.empty, .slice AJ L.length cJ, .slice AM M2.length cM]) := Lib.hid (G5.out.off HOff.out hrn hO)
          clear GR G6 HF7
          have GR := GR'
          clear GR'
          have HI := Lib.hid hI
          have HN := Lib.hid hN
          have HF := Lib.hid hf
          clear hO hI hN hf hRn hrn
          have GA := Lib.hid (GR.out.call ((Ext.refl wn).alloc (.cells zeroCells.toArray 27)))
          refine (IH.out m' rfl (deep + 1) (by omega) A N c p4 la HNe.out bad4 _ (HS.out.grow GA.out.ext) hl hc hp4).mono ?_
          rintro e w6 ⟨hx6, x, cs, p6, bad6, rfl, hp6, hrx, hxa⟩
          obtain ⟨x0, x1, x2, x3, x4, x5, x6, x7, x8, x9, xa, xb, rfl⟩ := hxa.shape
          have HF8 : Hid (∀ w7 w8, w7 = w6.setRow w.heap.size [.slice A N c, .int .i64 (p6 : Nat), .bool bad6].toArray → w8 = w7.setRow wn.heap.size [.int .i64 x0, .bool x1, .int .i64 x2, .string x3, .string x4, .string x5, .slice x6 x7 x8, .slice x9 xa xb].toArray → _) := Lib.hid fun w7 w8 e7 e8 => item_facts GR.out hx6 hxa e7 e8
          have HOneX := Lib.hid hxa.one
          have HRx := Lib.hid hrx
          have G6 := Lib.hid (GA.out.call hx6)
          have hWr : w5.heap.size ≤ wn.heap.size := HOff.out.size
          clear hx6 hxa hrx
          go_wp2_with (first | (refine wpList_store_whole rfl 84 (.tmp 2) (.tmp 133) rfl w.heap.size rfl [.slice A N c, .int .i64 (p6 : Nat), .bool bad6] rfl Try.sizeRd rfl 84 _ G6.out.r rfl (rd_one A N c p6 bad6) ?_; intro w7 hw2; have G7 := Lib.hid (G6.out.setR hw2); have HW7 := Lib.hid hw2; clear hw2) | (refine wpList_store_whole rfl 27 (.tmp 13) (.tmp 134) rfl wn.heap.size rfl [.int .i64 x0, .bool x1, .int .i64 x2, .string x3, .string x4, .string x5, .slice x6 x7 x8, .slice x9 xa xb] rfl Try.size27 rfl 27 _ (HF8.out w7 _ HW7.out rfl).1 rfl HOneX.out ?_; intro w8 hw8; have HW8 := Lib.hid (HF8.out w7 w8 HW7.out hw8).2; have f4 : w8.cell? ⟨w.heap.size + 3, 6, none⟩ = some (.slice AJ L.length cJ) := (by rw [cell_of_row _ _ _ _ _ _ HW8.out.1.v]; rfl); clear hw8) | refine wpList_load_cells rfl 27 (.tmp 13) rfl wn.heap.size 0 rfl Try.agg27 Try.size27 rfl HW8.out.2.2.2 ?_ | (at_builtin; go_must (refine wpList_append_at rfl (.tmp 136) (.tmp 138) 24 rfl w5.heap.size 27 iV (.agg zeroCells.toArray) 8 120 Try.underlying24 hiV hzV hsV hbV rfl (by decide) (.slice AJ L.length cJ) L.length xs' rfl (ownsRow_same HI.out fun b hb => (Below.heap_alloc w8 _ b (Nat.lt_of_lt_of_le (HI.out.lt b hb).2 HW8.out.2.1.size)).trans (HW8.out.2.1.block b (HI.out.lt b hb).2 (by have := (HI.out.lt b hb).1; have := G5.out.size; omega))) w8.heap.size 0 1 1 [.int .i64 x0, .bool x1, .int .i64 x2, .string x3, .string x4, .string x5, .slice x6 x7 x8, .slice x9 xa xb] rfl rfl (cellsAt_new _ _ rfl) HOneX.out (by rw [maxLen_eq]; omega) (by omega) (Nat.le_trans hWr (Nat.le_trans HW8.out.2.1.size (by simp))) ?_); intro R9 w9 hown hgr hbl; obtain ⟨E9, q9, rfl⟩ := own_shape hown; have HOwn := Lib.hid hown; have HGr := Lib.hid hgr; have HBl := Lib.hid hbl; clear hown hgr hbl; have HO9 : Hid (w9.heap[w.heap.size + 3]? = some (.cells [.int .i64 6, .bool false, .int .i64 0, .string ByteArray.empty, .string ByteArray.empty, .string ByteArray.empty, .slice AJ L.length cJ, .slice AM M2.length cM].toArray 27 (0, 0))) := Lib.hid ((HGr.out.block _ (Nat.lt_of_lt_of_le (Blk_lt HW8.out.1.v) (by simp)) (fun e => by have := (HI.out.lt _ e.symm).1; have := G5.out.size; omega)).trans ((Below.heap_alloc w8 _ _ (Blk_lt HW8.out.1.v)).trans HW8.out.1.v)); clear f4) | (refine wpList_store_slice rfl 24 (.tmp 140) (.tmp 139) rfl (w.heap.size + 3) 6 rfl E9 _ q9 rfl Try.sizeSl 27 _ HO9.out (by simp) ?_; intro wy hOy hgy; have HOy := Lib.hid hOy; have HGy := Lib.hid hgy; clear hOy hgy))
          have h5s := G5.out.size
          have s8 := HW8.out.2.1.size
          have s9 : w8.heap.size + 1 ≤ w9.heap.size := by have := HGr.out.size; simpa using this
          have k9 : Off wn w9 (fun b => b = w.heap.size ∨ (Value.slice AJ L.length cJ).ownBlock = some b) := ((HW8.out.2.1.mono fun b hb => .inl hb).trans (Off.of_ext ((Ext.refl w8).alloc _) _)).trans (Off.of_grown HGr.out fun b e => .inr e)
          have hob : ∀ b, (Value.slice E9 (L.length + 1) q9).ownBlock = some b → (Value.slice AJ L.length cJ).ownBlock = some b ∨ w8.heap.size ≤ b := fun b hb => by
            rcases HBl.out with h | h
            · exact .inl (h ▸ hb)
            · rw [h] at hb; injection hb with hb; exact .inr (by rw [← hb]; simp)
          have hx9 : Val.At (fun b => wn.heap.size ≤ b ∧ b < w8.heap.size) w9 x [.int .i64 x0, .bool x1, .int .i64 x2, .string x3, .string x4, .string x5, .slice x6 x7 x8, .slice x9 xa xb] := HW8.out.2.2.1.alike fun b hb => (HGr.out.block b (Nat.lt_of_lt_of_le hb.2 (by simp)) (fun e => by have := (HI.out.lt _ e.symm).2; have := hb.1; omega)).trans (Below.heap_alloc w8 _ b hb.2)
          have hR2 : Rdg w5 w.heap.size (w.heap.size + 3) 6 (L ++ [x]) M2 wy := Rdg.push_item HOff.out (by omega) (by omega) HI.out HN.out HF.out k9 HOwn.out s8 (by omega) hob hx9 HOy.out HGy.out
          have hr9 : w9.heap[w.heap.size]? = w8.heap[w.heap.size]? := (HGr.out.block _ (Nat.lt_of_lt_of_le (Blk_lt HW8.out.1.r) (by simp)) (fun e => by have := (HI.out.lt _ e.symm).1; omega)).trans (Below.heap_alloc w8 _ _ (Blk_lt HW8.out.1.r))
          have hry : wy.heap[w.heap.size]? = some (Obj.cells #[Value.slice A N c, Value.int IntKind.i64 (((p6) : Nat) : Int), Value.bool bad6] 84) := (HGy.out.block _ (by have := Blk_lt HW8.out.1.r; omega) (fun e => by injection e with e; omega)).trans (hr9.trans HW8.out.1.r)
          have hRl2 := HM2e.out ▸ ReadsL.field HRL.out rfl (by omega) HT.out HRx.out
          have HFin : Hid (∃ (L : List Val) (M : List ByteArray) (pk : Nat) (badk : Bool), Rdg w5 w.heap.size (w.heap.size + 3) 6 L M wy ∧ wy.heap[w.heap.size]? = some (Obj.cells #[Value.slice A N c, Value.int IntKind.i64 (((pk) : Nat) : Int), Value.bool badk] 84) ∧ pk ≤ N ∧ ReadsL true (la.drop p) bad (m' + 1) L M (n0 - (k + 1)) (la.drop pk) badk ∧ L.length ≤ 65537 ∧ M.length ≤ 65537 ∧ (∀ s ∈ M, s.size ≤ 65536)) := Lib.hid ⟨_, _, _, _, hR2, hry, hp6, hRl2, by simp; omega, hM3, HMs.out⟩
          clear h5s s8 s9 k9 hob hx9 hR2 hr9 hry hRl2
          go_wp2_with fail
          go_roundw
          case rel => exact ⟨k + 1, by go_num, by omega, HFin⟩
          case measure => simp [intOf]; omega

theorem get_okR : ∀ m, GetOk m
  | 0 => get_step 0 fun m' e => by omega
  | m + 1 => get_step (m + 1) fun m' e => by
    have : m' = m := by omega
    subst this
    exact get_okR m'
end Go.Proofs.Ytpkgkabcikmopaa
