/-
  What the operations of a drawing region of ConformRecords do (binary operations, conversions, an index by a uint16, a struct). No function of the program. The conditions: none (lemmas).
-/
import Derived.Test.YtjllolagcdjlnaaGreatConRM
namespace Go.Proofs.YtjllolagcdjlnaaGreat
open Go.RowKit

theorem exec_bin {P : Program} {o : Oper} {a : Act} {w : World} {op : BinOp} {T T' : TypeId} {x y : Operand} {u v r : Value} (ho : o.op = .binOp op T x y T') (hx : a.eval x = u) (hy : a.eval y = v) (hr : (do eqGuard op T x y u v; binOp op T u v : Sem Value).run P w = .ok r w) : (execOp a.eval o).run P w = .ok (.value r) w := by
  unfold execOp
  simp only [ho, hx, hy]
  simp only [Sem.run_bind] at hr ⊢
  cases hX : Sem.run P (eqGuard op T x y u v) w with
  | ok b w1 =>
    rw [hX] at hr
    simp only [Result.andThen_ok] at hr ⊢
    rw [hr]; rfl
  | _ => rw [hX] at hr; cases hr
theorem exec_cv {P : Program} {o : Oper} {a : Act} {w : World} {T T' : TypeId} {x : Operand} {u r : Value} (ho : o.op = .convert T T' x) (hx : a.eval x = u) (hr : (convert T T' u).run P w = .ok r w) : (execOp a.eval o).run P w = .ok (.value r) w := by
  unfold execOp
  simp only [ho, hx]
  simp [hr]
theorem exec_indexU {P : Program} {o : Oper} {a : Act} {w : World} {t : TypeId} {x y : Operand} {b off len cap i size : Nat} (ho : o.op = .indexAddr t x y) (hx : a.eval x = .slice (some ⟨b, off, none⟩) len cap) (hy : a.eval y = .int .u16 i) (ht : P.underlying t = some (.slice (P.elem t)))
    (hz : ∀ w, (Go.sizeOf (P.elem t)).run P w = .ok size w) (hi : i < len) : (execOp a.eval o).run P w = .ok (.value (.pointer (some ⟨b, off + i * size, none⟩))) w := by
  unfold execOp
  have h := run_indexAt_slice (P := P) w t ⟨b, off, none⟩ len cap .u16 (i : Int) ht
  rw [if_pos ⟨by omega, by omega⟩, hz w] at h
  have ha : (⟨b, off, none⟩ : Addr).add (i * size) = ⟨b, off + i * size, none⟩ := by
    unfold Addr.add
    by_cases h0 : i * size = 0
    · rw [h0]; simp
    · simp [h0]
  simp only [Int.toNat_natCast] at h
  simp [ho, hx, hy, h, ha]
theorem wp_bslice {P : Program} {o : Oper} {a : Act} {w w' : World} {Q : Exit → Act → World → Prop} {K : Act → World → Prop} {T : TypeId} {n : Nat} {xs : Array (Nat × Operand)} {ys : Array (Nat × Value)} {v : Value} (ho : o.op = .buildSlice T n xs) (hx : xs.map (fun p => (p.1, a.eval p.2)) = ys)
    (hr : (Instr.buildSlice T n ys).run P w = .ok v w') (hK : K (a.put o.dst v) w') : o.wp P a w K Q := by
  unfold Oper.wp execOp
  simp only [ho, hx]
  simp [hr]
  exact hK
theorem exec_bld {P : Program} {o : Oper} {a : Act} {w : World} {T : TypeId} {xs : Array (Nat × Operand)} {ys : Array (Nat × Value)} {v : Value} (ho : o.op = .build T xs) (hx : xs.map (fun p => (p.1, a.eval p.2)) = ys)
    (hr : (Instr.build T ys).run P w = .ok v w) : (execOp a.eval o).run P w = .ok (.value v) w := by
  unfold execOp
  simp only [ho, hx]
  simp [hr]
def ints4 : Array Value := #[.int .i64 3, .int .i64 4, .int .i64 5, .int .i64 1]
theorem Tryz.buildI : ∀ w, (Instr.buildSlice 81 4 #[(0, .int .i64 3), (1, .int .i64 4), (2, .int .i64 5), (3, .int .i64 1)]).run Tryz.prog w = .ok (.slice (some ⟨w.heap.size, 0, none⟩) 4 4) (w.alloc (.cells ints4 (Tryz.prog.elem 81))) := by
  intro w; simp [Instr.buildSlice, go_sem, ints4]

theorem Tryz.mul4 (i : Nat) (h : i ≤ 3) (x y : Operand) (w : World) : (do eqGuard .mul 3 x y (.int .i64 4) (.int .i64 i); binOp .mul 3 (.int .i64 4) (.int .i64 i) : Sem Value).run Tryz.prog w = .ok (.int .i64 (4 * i)) w := by
  rcases (by omega : i = 0 ∨ i = 1 ∨ i = 2 ∨ i = 3) with rfl | rfl | rfl | rfl <;> kernel_rfl
theorem Tryz.add2 (i : Nat) (h : i ≤ 3) (x y : Operand) (w : World) : (do eqGuard .add 3 x y (.int .i64 (4 * i)) (.int .i64 2); binOp .add 3 (.int .i64 (4 * i)) (.int .i64 2) : Sem Value).run Tryz.prog w = .ok (.int .i64 (4 * i + 2)) w := by
  rcases (by omega : i = 0 ∨ i = 1 ∨ i = 2 ∨ i = 3) with rfl | rfl | rfl | rfl <;> kernel_rfl
theorem Tryz.cvA (i : Nat) (h : i ≤ 3) (w : World) : (convert 3 52 (.int .i64 (4 * i + 2))).run Tryz.prog w = .ok (.int .u64 (4 * i + 2)) w := by
  rcases (by omega : i = 0 ∨ i = 1 ∨ i = 2 ∨ i = 3) with rfl | rfl | rfl | rfl <;> kernel_rfl
theorem Tryz.cvB (i : Nat) (h : i ≤ 3) (w : World) : (convert 3 52 (.int .i64 i)).run Tryz.prog w = .ok (.int .u64 i) w := by
  rcases (by omega : i = 0 ∨ i = 1 ∨ i = 2 ∨ i = 3) with rfl | rfl | rfl | rfl <;> kernel_rfl
theorem Tryz.sh16 (z : Int) (i : Nat) (h : i ≤ 3) (x y : Operand) (w : World) : (do eqGuard .shr 80 x y (.int .u16 z) (.int .u64 (4 * i + 2)); binOp .shr 80 (.int .u16 z) (.int .u64 (4 * i + 2)) : Sem Value).run Tryz.prog w = .ok (.int .u16 (z / 2 ^ (4 * i + 2))) w := by
  have e := shift_shr .u16 .u64 z (4 * i + 2 : Int) (by omega) (by show _ ≤ (16 : Int); omega)
  rw [show ((4 * i + 2 : Int)).toNat = 4 * i + 2 by omega] at e
  rw [eqGuard_shr, binOp_shr, e]; rfl
theorem Tryz.sh8 (z : Int) (i : Nat) (h : i ≤ 3) (x y : Operand) (w : World) : (do eqGuard .shr 5 x y (.int .u8 z) (.int .u64 i); binOp .shr 5 (.int .u8 z) (.int .u64 i) : Sem Value).run Tryz.prog w = .ok (.int .u8 (z / 2 ^ i)) w := by
  have e := shift_shr .u8 .u64 z (i : Int) (by omega) (by show _ ≤ (8 : Int); omega)
  rw [show ((i : Int)).toNat = i by omega] at e
  rw [eqGuard_shr, binOp_shr, e]; rfl
theorem Tryz.an16 (z q : Int) (x y : Operand) (w : World) (h : bits .and .u16 z 3 = q) : (do eqGuard .and 80 x y (.int .u16 z) (.int .u16 3); binOp .and 80 (.int .u16 z) (.int .u16 3) : Sem Value).run Tryz.prog w = .ok (.int .u16 q) w := by
  subst h; rfl
theorem Tryz.an8 (z q : Int) (x y : Operand) (w : World) (h : bits .and .u8 z 1 = q) : (do eqGuard .and 5 x y (.int .u8 z) (.int .u8 1); binOp .and 5 (.int .u8 z) (.int .u8 1) : Sem Value).run Tryz.prog w = .ok (.int .u8 q) w := by
  subst h; rfl
theorem Tryz.eq8 (q : Int) (x y : Operand) (w : World) : (do eqGuard .eql 5 x y (.int .u8 q) (.int .u8 1); binOp .eql 5 (.int .u8 q) (.int .u8 1) : Sem Value).run Tryz.prog w = .ok (.bool (q == 1)) w := by
  simp [go_sem]
theorem Tryz.bldT (k : Int) (w : World) : (Instr.build 57 #[(0, .int .i64 k)]).run Tryz.prog w = .ok (.agg #[.int .i64 k, .string ByteArray.empty, .slice none 0 0, .slice none 0 0]) w := by
  simp [Instr.build, go_sem]; rfl
theorem Tryz.bldA (k : Int) (n : ByteArray) (b : Bool) (w : World) : (Instr.build 83 #[(0, .string n), (1, .agg #[.int .i64 k, .string ByteArray.empty, .slice none 0 0, .slice none 0 0]), (2, .bool b)]).run Tryz.prog w = .ok (.agg #[.string n, .int .i64 k, .string ByteArray.empty, .slice none 0 0, .slice none 0 0, .bool b]) w := by
  simp [Instr.build, go_sem]
theorem Tryz.buildA (v0 v1 v2 v3 v4 v5 : Value) : ∀ w, (Instr.buildSlice 55 1 #[(0, .agg #[v0, v1, v2, v3, v4, v5])]).run Tryz.prog w = .ok (.slice (some ⟨w.heap.size, 0, none⟩) 1 1) (w.alloc (.cells #[v0, v1, v2, v3, v4, v5] 83)) := by
  intro w; simp [Instr.buildSlice, go_sem]
theorem Tryz.aggSA : ∀ w, (isAgg 55).run Tryz.prog w = .ok false w := fun _ => by kernel_rfl
theorem Tryz.aggIn : ∀ w, (isAgg 3).run Tryz.prog w = .ok false w := fun _ => by kernel_rfl
theorem Tryz.elemIn : Tryz.prog.underlying 81 = some (.slice (Tryz.prog.elem 81)) := by kernel_rfl
theorem Tryz.elemIns : ∀ w, (Go.sizeOf (Tryz.prog.elem 81)).run Tryz.prog w = .ok 1 w := fun _ => by kernel_rfl
theorem Tryz.fieldTA (O : Nat) : ∀ w, (Instr.fieldAt 57 (.pointer (some ⟨O, 0, none⟩)) 3).run Tryz.prog w = .ok (.pointer (some ⟨O, 3, none⟩)) w := by
  intro w; simp [Instr.fieldAt, go_sem]
/-- what is done of region 14: the row of numbers, the attribute's row, the attributes -/
def Stg14 (wz : World) (Tv : Value) (B k : Nat) (zs ent : List Value) : List Value → World → Prop
  | [], V => V = wz.drew
  | [a], V => a = .slice (some ⟨wz.heap.size, 0, none⟩) 4 4 ∧ V = wz.drew.alloc (.cells ints4 (Tryz.prog.elem 81))
  | [a, b], V => a = .slice (some ⟨wz.heap.size, 0, none⟩) 4 4 ∧ b = .slice (some ⟨wz.heap.size + 1, 0, none⟩) 1 1 ∧ V = (wz.drew.alloc (.cells ints4 (Tryz.prog.elem 81))).alloc (.cells ent.toArray 83)
  | [a, _, r], V => a = .slice (some ⟨wz.heap.size, 0, none⟩) 4 4 ∧ V.ownsRow B 83 6 r (k + 1) (zs ++ ent) ∧ GrownBy ((wz.drew.alloc (.cells ints4 (Tryz.prog.elem 81))).alloc (.cells ent.toArray 83)) V Tv.ownBlock
  | _, _ => False
theorem ext_drew (w : World) : Ext w w.drew := ⟨⟨rfl, rfl, rfl, Nat.le_refl _, fun _ _ => rfl⟩, Nat.le_succ _⟩
theorem Stg14.grown {wz : World} {Tv : Value} {B k : Nat} {zs ent vs : List Value} {V : World} (h : Stg14 wz Tv B k zs ent vs V) : GrownBy wz V Tv.ownBlock := by
  match vs, h with
  | [], h => subst h; exact .of_ext _ (ext_drew wz)
  | [_], h => rw [h.2]; exact .of_ext _ ((ext_drew wz).alloc _)
  | [_, _], h => rw [h.2.2]; exact .of_ext _ (((ext_drew wz).alloc _).alloc _)
  | [_, _, _], h => exact (GrownBy.of_ext _ (((ext_drew wz).alloc _).alloc _)).trans h.2.2
theorem Stg14.int {wz : World} {Tv : Value} {B k : Nat} {zs ent vs : List Value} {V : World} (h : Stg14 wz Tv B k zs ent vs V) (h0 : 0 < vs.length) (hT : ∀ b, Tv.ownBlock = some b → b < wz.heap.size) : vs.getD 0 undef = .slice (some ⟨wz.heap.size, 0, none⟩) 4 4 ∧ V.heap[wz.heap.size]? = some (.cells ints4 (Tryz.prog.elem 81) (0, 0)) := by
  have e1 : (wz.drew.alloc (.cells ints4 (Tryz.prog.elem 81))).heap[wz.heap.size]? = some (.cells ints4 (Tryz.prog.elem 81) (0, 0)) := by
    show (wz.heap.push _)[wz.heap.size]? = _
    simp
  have hs : wz.heap.size < (wz.drew.alloc (.cells ints4 (Tryz.prog.elem 81))).heap.size := Blk_lt e1
  have e2 := fun o => (((Ext.refl (wz.drew.alloc (.cells ints4 (Tryz.prog.elem 81)))).alloc o).block _ hs).trans e1
  match vs, h, h0 with
  | [_], h, _ => rw [h.2]; exact ⟨h.1, e1⟩
  | [_, _], h, _ => rw [h.2.2]; exact ⟨h.1, e2 _⟩
  | [_, _, _], h, _ => exact ⟨h.1, (h.2.2.block _ (Blk_lt (e2 _)) (fun e => by have := hT _ e.symm; omega)).trans (e2 _)⟩
theorem Tryz.infoAtr : (Tryz.prog.info? 83).map (fun i => (i.zero, i.size, i.bytes)) = some (some (.agg #[.string ByteArray.empty, .int .i64 0, .string ByteArray.empty, .slice none 0 0, .slice none 0 0, .bool false]), 6, 96) := by kernel_rfl
theorem wp_append_at14 {P : Program} {o : Oper} {a : Act} {Q : Exit → Act → World → Prop} {K : Act → World → Prop} {w : World} (_hgd : o.guard = none) (s x : Operand) (t : TypeId)
    (ho : o.op = .call { callee := .builtin .append, args := #[s, x], argTypes := #[t, t] })
    (base : Nat) (e : TypeId) (i : TypeInfo) (z : Value) (size bytes : Nat) (ht : P.underlying t = some (.slice e)) (hi : P.info? e = some i) (hz : i.zero = some z)
    (hsize : i.size = size) (hby : i.bytes = bytes) (hzs : z.cells.size = size) (hsz : 0 < size)
    (v : Value) (n : Nat) (xs : List Value) (hs : a.eval s = v) (hown : w.ownsRow base e size v n xs)
    (b of m c : Nat) (news : List Value) (hx : a.eval x = .slice (some ⟨b, of, none⟩) m c) (hl : news.length = m * size) (hnews : CellsAt w b of news) (h1 : ∀ u ∈ news, u.oneCell' = true)
    (h63 : n + m ≤ maxLen) (hbytes : (n + m) * bytes ≤ 140737488355328) (hbase : base ≤ w.heap.size)
    (hK : ∀ v' w', w'.ownsRow base e size v' (n + m) (xs ++ news) → GrownBy w w' v.ownBlock → (v'.ownBlock = v.ownBlock ∨ v'.ownBlock = some w.heap.size) → K (a.put o.dst v') w') : o.wp P a w K Q := by
  obtain ⟨v', w', hrun, h2, h3, _, h4⟩ := run_append_own_at (P := P) w base t o.type e i z size bytes ht hi hz hsize hby hzs hsz v n xs hown ⟨b, of, none⟩ m c news hl (cell_add hnews) h1 h63 hbytes hbase
  unfold Oper.wp execOp
  simp only [ho, resolve, invoke, builtin, Sem.run_bind, Sem.run_pure, Result.andThen_ok, List.map_toArray, List.map_cons, List.map_nil, hs, hx, hrun]
  exact hK _ _ (h2) ⟨h3, run_drawn _ _ _ _ hrun⟩ h4
theorem plainC_two (n : ByteArray) (k : Int) (b : Bool) : ∀ u ∈ ([.string n, .int .i64 k, .string ByteArray.empty, .slice none 0 0, .slice none 0 0, .bool b] : List Value), u.oneCell' = true := by
  intro u hu
  simp only [List.mem_cons, List.not_mem_nil, or_false] at hu
  rcases hu with rfl | rfl | rfl | rfl | rfl | rfl <;> rfl
theorem atr_at {n : ByteArray} {k : Int} {b : Bool} (hn : n.size ≤ maxLen) (hk : 0 ≤ k ∧ k ≤ 8) {S : Nat → Prop} {w : World} : Atr.At S w (.mk n (.mk k ByteArray.empty [] []) b) [.string n, .int .i64 k, .string ByteArray.empty, .slice none 0 0, .slice none 0 0, .bool b] := by
  unfold Atr.At
  refine ⟨[.int .i64 k, .string ByteArray.empty, .slice none 0 0, .slice none 0 0], rfl, hn, Ty.At.of ⟨by omega, by omega⟩ (by rw [maxLen_eq]; decide) (Rep.RowsAt.nil ..) (Rep.RowsAt.nil ..)⟩
theorem drew_alloc (w : World) (o : Obj) : (w.drew.alloc o).heap.size = w.heap.size + 1 := by
  show (w.heap.push _).size = _
  simp
theorem lst26 {α : Type} {l : List α} (h : l.length = 26) : ∃ x0 x1 x2 x3 x4 x5 x6 x7 x8 x9 x10 x11 x12 x13 x14 x15 x16 x17 x18 x19 x20 x21 x22 x23 x24 x25, l = [x0, x1, x2, x3, x4, x5, x6, x7, x8, x9, x10, x11, x12, x13, x14, x15, x16, x17, x18, x19, x20, x21, x22, x23, x24, x25] := by
  match l, h with
  | [x0, x1, x2, x3, x4, x5, x6, x7, x8, x9, x10, x11, x12, x13, x14, x15, x16, x17, x18, x19, x20, x21, x22, x23, x24, x25], _ => exact ⟨x0, x1, x2, x3, x4, x5, x6, x7, x8, x9, x10, x11, x12, x13, x14, x15, x16, x17, x18, x19, x20, x21, x22, x23, x24, x25, rfl⟩
theorem Tryz.sizeSA : ∀ w, (Go.sizeOf 55).run Tryz.prog w = .ok 1 w := fun _ => by kernel_rfl
end Go.Proofs.YtjllolagcdjlnaaGreat
