/-
  A row of a call's own, put together anew with one value more at a place; an append whose source may be empty. The conditions: none (definitions and lemmas).
-/
import Derived.Test.YtebfoimbdljbmaaDoorGc
import Derived.Test.YtebfoimbdljbmaaDoorGb
import Derived.Laws.StructEq
namespace Go.Proofs.YtebfoimbdljbmaaDoor
open Go.RowKit

/-! ### the place from behind -/
section
variable {α : Type} {c : α → α → Int}
/-- what is looked through so far -/
def Behind (c : α → α → Int) (x : α) (L : List α) (p : Nat) (tb : Bool) : Prop := (∀ j y, p ≤ j → L[j]? = some y → ¬ c y x = -1) ∧ (tb = true ↔ ∃ j y, p ≤ j ∧ L[j]? = some y ∧ c y x = 0)
theorem Behind.step {x y : α} {L : List α} {p : Nat} {tb : Bool} (h : Behind c x L (p + 1) tb) (hy : L[p]? = some y) (h1 : ¬ c y x = -1) : Behind c x L p (tb || decide (c y x = 0)) := by
  refine ⟨fun j z hj hz => ?_, ?_⟩
  · rcases Nat.lt_or_ge p j with hp | hp
    · exact h.1 j z hp hz
    · have : j = p := by omega
      subst this; rw [hy] at hz; cases hz; exact h1
  · rw [Bool.or_eq_true, h.2, decide_eq_true_eq]
    constructor
    · rintro (⟨j, z, hj, hz, h0⟩ | h0)
      · exact ⟨j, z, by omega, hz, h0⟩
      · exact ⟨p, y, Nat.le_refl _, hy, h0⟩
    · rintro ⟨j, z, hj, hz, h0⟩
      rcases Nat.lt_or_ge p j with hp | hp
      · exact .inl ⟨j, z, hp, hz, h0⟩
      · have : j = p := by omega
        subst this; rw [hy] at hz; cases hz; exact .inr h0
theorem Behind.back {x z : α} {L : List α} {p : Nat} {tb : Bool} {ov : Int} (h : Behind c x L p tb) (hp : p ≠ 0) (hz : L[p - 1]? = some z) (hov : ov = c z x) (h1 : ov ≠ -1) : Behind c x L (p - 1) (tb || decide (ov = 0)) := by
  rw [hov]
  exact Behind.step (by rwa [show p - 1 + 1 = p by omega]) hz (by rwa [← hov])
end

theorem run_append_of_nil {P : Program} {w : World} (base : Nat) (t ty e : TypeId) (i : TypeInfo) (size : Nat) (ht : P.underlying t = some (.slice e)) (hi : P.info? e = some i)
    (v : Value) (n : Nat) (xs : List Value) (hown : w.ownsRow base e size v n xs) (c : Nat) : (Builtin.append_ #[t, t] ty #[v, .slice none 0 c]).run P w = .ok v w := by
  rcases hown.2 with ⟨rfl, rfl⟩ | ⟨g, cap, cur, rfl, _, _, hnc, _⟩
  · simp [Builtin.append_, run_underlying ht, Go.sizeOf, typeInfo, hi, Builtin.lenOf, Builtin.firstCells]
  · simp [Builtin.append_, run_underlying ht, Go.sizeOf, typeInfo, hi, Builtin.lenOf, Builtin.firstCells, hnc, storeCells]

/-- what a source must be -/
def SrcAt (w : World) (A : Option Addr) (m : Nat) (news : List Value) : Prop := 0 < m → ∃ b of, A = some ⟨b, of, none⟩ ∧ CellsAt w b of news

/-- append onto a row of the call's own, the source empty or not -/
theorem wpList_append_any {P : Program} {ops : Array Oper} {rest : List Oper} {o : Oper} {a : Act} {Q : Exit → Act → World → Prop} {w : World} (hgd : o.guard = none) (s x : Operand) (t : TypeId)
    (ho : o.op = .call { callee := .builtin .append, args := #[s, x], argTypes := #[t, t] })
    (base : Nat) (e : TypeId) (i : TypeInfo) (z : Value) (size bytes : Nat) (ht : P.underlying t = some (.slice e)) (hi : P.info? e = some i) (hz : i.zero = some z)
    (hsize : i.size = size) (hby : i.bytes = bytes) (hzs : z.cells.size = size) (hsz : 0 < size)
    (v : Value) (n : Nat) (xs : List Value) (hs : a.eval s = v) (hown : w.ownsRow base e size v n xs)
    (A : Option Addr) (m c : Nat) (news : List Value) (hx : a.eval x = .slice A m c) (hl : news.length = m * size) (hsrc : SrcAt w A m news) (h1 : ∀ u ∈ news, u.oneCell' = true)
    (h63 : n + m ≤ maxLen) (hbytes : (n + m) * bytes ≤ 140737488355328) (hbase : base ≤ w.heap.size)
    (h : ∀ v' w', w'.ownsRow base e size v' (n + m) (xs ++ news) → GrownBy w w' v.ownBlock → (v'.ownBlock = v.ownBlock ∨ v'.ownBlock = some w.heap.size) → wpList P ops Q rest (a.put o.dst v') w') : wpList P ops Q (o :: rest) a w :=
  wpList_plain hgd fun K hK => by
    have key : ∃ v' w', (Builtin.append_ #[t, t] o.type #[v, .slice A m c]).run P w = .ok v' w' ∧ w'.ownsRow base e size v' (n + m) (xs ++ news) ∧ GrownBy w w' v.ownBlock ∧ (v'.ownBlock = v.ownBlock ∨ v'.ownBlock = some w.heap.size) := by
      cases A with
      | none =>
        have hm : m = 0 := by
          rcases Nat.eq_zero_or_pos m with h0 | h0
          · exact h0
          · obtain ⟨_, _, h, _⟩ := hsrc h0; cases h
        subst hm
        have hn : news = [] := List.eq_nil_of_length_eq_zero (by simpa using hl)
        subst hn
        exact ⟨v, w, run_append_of_nil base t _ e i size ht hi v n xs hown c, by simpa using hown, GrownBy.of_ext _ (Ext.refl w), .inl rfl⟩
      | some ad =>
        obtain ⟨v', w', hrun, h2, h3, _, h4⟩ := run_append_own_at (P := P) w base t o.type e i z size bytes ht hi hz hsize hby hzs hsz v n xs hown ad m c news hl (fun j u hj => by
          have h0 : 0 < m := by
            rcases Nat.eq_zero_or_pos m with h0 | h0
            · subst h0
              have hn : news = [] := List.eq_nil_of_length_eq_zero (by simpa using hl)
              subst hn; simp at hj
            · exact h0
          obtain ⟨b, of, he, hc⟩ := hsrc h0
          injection he with he; subst he
          exact cell_add hc j u hj) h1 h63 hbytes hbase
        exact ⟨v', w', hrun, h2, ⟨h3, run_drawn _ _ _ _ hrun⟩, h4⟩
    obtain ⟨v', w', hrun, h2, h3, h4⟩ := key
    unfold Oper.wp execOp
    simp only [ho, resolve, invoke, builtin, Sem.run_bind, Sem.run_pure, Result.andThen_ok, List.map_toArray, List.map_cons, List.map_nil, hs, hx, hrun]
    exact hK _ _ (h v' w' h2 h3 h4)

theorem Flat.insert {S : Nat → Prop} {w : World} {x : Val} {cs : List Value} (hx : Val.At S w x cs) : ∀ {p : Nat} {L : List Val} {xs : List Value}, Flat S w L xs → p ≤ L.length → Flat S w (L.take p ++ x :: L.drop p) (xs.take (p * 8) ++ cs ++ xs.drop (p * 8))
  | 0, L, xs, h, _ => by simpa using ⟨cs, xs, rfl, hx, h⟩
  | p + 1, [], xs, h, hp => by simp at hp
  | p + 1, v :: r, xs, ⟨c, ys, e, hv, hr⟩, hp => by
    subst e
    have hc := hv.length
    have := Flat.insert hx hr (p := p) (by simpa using hp)
    refine ⟨c, ys.take (p * 8) ++ cs ++ ys.drop (p * 8), ?_, hv, this⟩
    rw [List.take_append, List.drop_append, List.take_of_length_le (by omega), List.drop_eq_nil_of_le (by omega), show (p + 1) * 8 - c.length = p * 8 by omega]
    simp

theorem heap_alloc_at {w : World} {g : Nat} (h : g = w.heap.size) (o : Obj) : (w.alloc o).heap[g]? = some o := by subst h; exact heap_alloc_new w o

theorem ownsRow_base {w : World} {base base' : Nat} {e : TypeId} {size : Nat} {v : Value} {n : Nat} {xs : List Value} (h : w.ownsRow base e size v n xs) (hb : base' ≤ base) : w.ownsRow base' e size v n xs := by
  obtain ⟨h1, h2⟩ := h
  refine ⟨h1, ?_⟩
  rcases h2 with h2 | ⟨g, cap, cur, hv, hg, r⟩
  · exact .inl h2
  · exact .inr ⟨g, cap, cur, hv, Nat.le_trans hb hg, r⟩

theorem Flat.one {S : Nat → Prop} {w : World} : ∀ {l : List Val} {xs : List Value}, Flat S w l xs → ∀ u ∈ xs, u.oneCell' = true
  | [], xs, h, u, hu => by simp only [Flat] at h; subst h; cases hu
  | v :: r, xs, ⟨c, ys, e, hv, hr⟩, u, hu => by
    subst e
    rcases List.mem_append.1 hu with h | h
    · exact hv.one u h
    · exact Flat.one hr u h
/-- a value in the making: all fields but the rows are empty -/
structure Ins (S : Nat → Prop) (w1 : World) (O : Nat) (kd : Int) (L : List Val) (M : List ByteArray) (wr : World) : Prop where
  grown : GrownBy w1 wr (some O)
  rows : ∃ (I N : Value) (xs : List Value), wr.heap[O]? = some (.cells #[.int .i64 kd, .bool false, .int .i64 0, .string ByteArray.empty, .string ByteArray.empty, .string ByteArray.empty, I, N] 28 (0, 0)) ∧
    wr.ownsRow w1.heap.size 28 8 I L.length xs ∧ wr.ownsRow w1.heap.size 9 1 N M.length (M.map Value.string) ∧ Flat S wr L xs

theorem Ins.ext {S : Nat → Prop} {w1 wr wx : World} {O : Nat} {kd : Int} {L : List Val} {M : List ByteArray} (h : Ins S w1 O kd L M wr) (hS : ∀ b, S b → b < w1.heap.size) (k : Ext wr wx) : Ins S w1 O kd L M wx := by
  obtain ⟨I, N, xs, h1, h2, h3, h4⟩ := h.rows
  exact ⟨h.grown.trans (GrownBy.of_ext _ k), I, N, xs, (k.block _ (Blk_lt h1)).trans h1, ownsRow_ext h2 k, ownsRow_ext h3 k, h4.alike (Alike.of_ext k fun b hb => Nat.lt_of_lt_of_le (hS b hb) h.grown.size)⟩

/-- one value more among the items -/
theorem Ins.items_at {S : Nat → Prop} {w1 wr wx x3 x4 : World} {O n' : Nat} {kd : Int} {L L' : List Val} {M : List ByteArray} {I N I' : Value} {xs xs' cs : List Value} {x : Val} {p : Nat} (h : GrownBy w1 wr (some O)) (hwx : Ext wr wx) (hx3 : Ext wx x3)
    (_hO : wr.heap[O]? = some (.cells #[.int .i64 kd, .bool false, .int .i64 0, .string ByteArray.empty, .string ByteArray.empty, .string ByteArray.empty, I, N] 28 (0, 0))) (hOs : O < w1.heap.size)
    (hI' : x3.ownsRow wx.heap.size 28 8 I' n' xs') (hN : wr.ownsRow w1.heap.size 9 1 N M.length (M.map Value.string)) (hf : Flat S wr L xs) (hS : ∀ b, S b → b < w1.heap.size ∧ b ≠ O) (hva : Val.At S wr x cs) (hp : p ≤ L.length)
    (hn' : n' = L'.length) (hxs : xs' = xs.take (p * 8) ++ cs ++ xs.drop (p * 8)) (hL : L' = L.take p ++ x :: L.drop p)
    (hO4 : x4.heap[O]? = some (.cells #[.int .i64 kd, .bool false, .int .i64 0, .string ByteArray.empty, .string ByteArray.empty, .string ByteArray.empty, I', N] 28 (0, 0))) (g4 : GrownBy x3 x4 (some O)) :
    Ins S w1 O kd L' M x4 := by
  have hx := hwx.trans hx3
  have s1 := h.size
  have s2 := hx.size
  have hal : Alike S wr x4 := fun b hb => by
    obtain ⟨hb1, hb2⟩ := hS b hb
    rw [g4.block b (by omega) (fun e => by injection e with e; omega), hx.block b (by omega)]
  subst hn' hxs
  refine ⟨(h.trans (GrownBy.of_ext _ hx)).trans g4, I', N, xs.take (p * 8) ++ cs ++ xs.drop (p * 8), hO4, ?_, ?_, ?_⟩
  · exact ownsRow_apart (ownsRow_base hI' (Nat.le_trans s1 hwx.size)) g4 fun b hb e => by injection e with e; have := (hI'.lt b hb).1; have := hwx.size; omega
  · exact ownsRow_apart (ownsRow_ext hN hx) g4 fun b hb e => by injection e with e; have := (hN.lt b hb).1; omega
  · rw [hL]
    exact Flat.insert (hva.alike hal) (hf.alike hal) hp
theorem Ins.items {S : Nat → Prop} {w1 wr wx x3 : World} {O n' : Nat} {kd : Int} {L L' : List Val} {M : List ByteArray} {I N I' : Value} {xs xs' cs : List Value} {x : Val} {p : Nat} (h : GrownBy w1 wr (some O)) (hwx : Ext wr wx) (hx3 : Ext wx x3)
    (hO : wr.heap[O]? = some (.cells #[.int .i64 kd, .bool false, .int .i64 0, .string ByteArray.empty, .string ByteArray.empty, .string ByteArray.empty, I, N] 28 (0, 0))) (hOs : O < w1.heap.size)
    (hI' : x3.ownsRow wx.heap.size 28 8 I' n' xs') (hN : wr.ownsRow w1.heap.size 9 1 N M.length (M.map Value.string)) (hf : Flat S wr L xs) (hS : ∀ b, S b → b < w1.heap.size ∧ b ≠ O) (hva : Val.At S wr x cs) (hp : p ≤ L.length)
    (hn' : n' = L'.length) (hxs : xs' = xs.take (p * 8) ++ cs ++ xs.drop (p * 8)) (hL : L' = L.take p ++ x :: L.drop p) :
    Ins S w1 O kd L' M (x3.setCell ⟨O, 6, none⟩ I') :=
  Ins.items_at h hwx hx3 hO hOs hI' hN hf hS hva hp hn' hxs hL (heap_setCell_at (((hwx.trans hx3).block _ (Blk_lt hO)).trans hO) 6 I') (GrownBy.setCell x3 O 6 I')
/-- a slice stored into a cell of a known block -/
theorem wpList_store_slice {P : Program} {ops : Array Oper} {rest : List Oper} {op : Oper} {a : Act} {w : World} {Q : Exit → Act → World → Prop} (hgd : op.guard = none) (ty : TypeId) (x y : Operand) (ho : op.op = .store ty x y)
    (g off : Nat) (hx : a.eval x = .pointer (some ⟨g, off, none⟩)) (A : Option Addr) (n c : Nat) (hy : a.eval y = .slice A n c) (hz : ∀ w, (Go.sizeOf ty).run P w = .ok 1 w)
    (T : TypeId) (cur : Array Value) (hg : w.heap[g]? = some (.cells cur T (0, 0))) (hl : off < cur.size)
    (hk : ∀ w', w'.heap[g]? = some (.cells (cur.setIfInBounds off (.slice A n c)) T (0, 0)) → GrownBy w w' (some g) → wpList P ops Q rest (a.put op.dst undef) w') : wpList P ops Q (op :: rest) a w :=
  wpList_plain hgd fun K hK => by
    have hst := run_storeCells_at (P := P) g off T [Value.slice A n c] 0 cur w hg (by simp; omega) (by simp [Value.oneCell'])
    simp only [Nat.add_zero] at hst
    have hst' : ∃ w', (storeVar ty ⟨g, off, none⟩ (.slice A n c)).run P w = .ok () w' ∧ w'.heap[g]? = some (.cells (cur.setIfInBounds off (.slice A n c)) T (0, 0)) ∧ GrownBy w w' (some g) := by
      refine ⟨w.setRow g (cur.toList.take off ++ [Value.slice A n c] ++ cur.toList.drop (off + 1)).toArray, ?_, ?_, GrownBy.setRow _ _ _⟩
      · simpa [storeVar, hz, Value.cells] using hst
      · rw [heap_setRow hg]
        congr 2
        apply Array.ext_getElem?
        intro i
        simp only [List.getElem?_toArray, Array.getElem?_setIfInBounds]
        rcases Nat.lt_trichotomy i off with h | h | h
        · rw [List.append_assoc, List.getElem?_append_left (by simp; omega), List.getElem?_take, if_pos h, if_neg (by omega)]; simp
        · subst h
          have hm : (cur.toList.take i).length = i := by simp; omega
          rw [List.append_assoc, List.getElem?_append_right (by omega), hm, if_pos rfl, if_pos hl]
          simp
        · rw [List.getElem?_append_right (by simp; omega), if_neg (by omega), List.getElem?_drop]
          simp
          congr 1
          omega
    obtain ⟨w', h1, h2, h3⟩ := hst'
    unfold Oper.wp execOp
    simp only [ho, hx, hy, Instr.storeAt, Instr.sureAddr, Sem.run_bind, Sem.run_pure, Result.andThen_ok, h1]
    exact hK _ _ (hk w' h2 h3)

/-- the value that has been made -/
theorem Ins.fin {S S' : Nat → Prop} {w1 wr : World} {O : Nat} {kd : Int} {L : List Val} {M : List ByteArray} (h : Ins S w1 O kd L M wr) (hk : I64 kd) (hl : L.length ≤ LIM) (hm : M.length ≤ LIM) (hs : ∀ s ∈ M, s.size ≤ maxLen) (h1 : ∀ b, S b → S' b) (h2 : ∀ b, w1.heap.size ≤ b → b < wr.heap.size → S' b) :
    ∃ I N : Value, wr.heap[O]? = some (.cells #[.int .i64 kd, .bool false, .int .i64 0, .string ByteArray.empty, .string ByteArray.empty, .string ByteArray.empty, I, N] 28 (0, 0)) ∧
      Val.At S' wr (.mk kd false 0 empty empty empty L M) [.int .i64 kd, .bool false, .int .i64 0, .string ByteArray.empty, .string ByteArray.empty, .string ByteArray.empty, I, N] := by
  obtain ⟨I, N, xs, hO, hI, hN, hf⟩ := h.rows
  refine ⟨I, N, hO, ?_⟩
  have hv := own_vals (S' := S') hI hf hl h1 fun b hb => h2 b (hI.lt b hb).1 (hI.lt b hb).2
  have hn := own_strs (S := S') hN hm hs fun b hb => h2 b (hN.lt b hb).1 (hN.lt b hb).2
  obtain ⟨A, cap, rfl, h3, h4⟩ := hv
  have h0 : empty.size ≤ maxLen := by rw [maxLen_eq]; decide
  unfold Val.At
  exact ⟨A, cap, N, rfl, ⟨hk, ⟨by omega, by omega⟩, h0, h0, h0⟩, h3, h4, hn⟩

end Go.Proofs.YtebfoimbdljbmaaDoor

/-
  A statement that makes one row of a call's own longer by one, in an order that Go leaves open: operations that come to known values, a row of one, an append. The conditions: none (lemmas).
-/
namespace Go.Proofs.YtebfoimbdljbmaaDoor
open Go.RowKit

section one
variable (v0 : World) (base : Nat) (T : TypeId) (size : Nat) (R : Value) (k : Nat) (xs news : List Value) (vals : List Value)

end one

theorem wp_enter2 {P : Program} {o : Oper} {a : Act} {w : World} {K : Act → World → Prop} {Q : Exit → Act → World → Prop} {Φ : Value → World → Prop} {f : FuncId} {args : Array Value} (hrun : (execOp a.eval o).run P w = .ok (.enter f args) w)
    (hc : Calls P f args w fun e w' => ∃ v, e = .returned v ∧ Φ v w') (hk : ∀ v w', Φ v w' → K (a.put o.dst v) w') : o.wp P a w K Q := by
  unfold Oper.wp
  rw [hrun]
  refine hc.mono ?_
  rintro e w' ⟨v, rfl, hv⟩
  exact hk v w' hv
theorem wp_value2 {P : Program} {o : Oper} {a : Act} {w w' : World} {K : Act → World → Prop} {Q : Exit → Act → World → Prop} {v : Value} (hrun : (execOp a.eval o).run P w = .ok (.value v) w') (hk : K (a.put o.dst v) w') : o.wp P a w K Q := by
  unfold Oper.wp
  rw [hrun]
  exact hk
theorem exec_move {P : Program} {o : Oper} {a : Act} {w : World} {x : Operand} {v : Value} (ho : o.op = .move x) (hv : a.eval x = v) : (execOp a.eval o).run P w = .ok (.value v) w := by
  unfold execOp
  simp [ho, hv]
theorem exec_index {P : Program} {o : Oper} {a : Act} {w : World} {t : TypeId} {x y : Operand} {b off len cap i size : Nat} (ho : o.op = .indexAddr t x y) (hx : a.eval x = .slice (some ⟨b, off, none⟩) len cap) (hy : a.eval y = .int .i64 i) (ht : P.underlying t = some (.slice (P.elem t)))
    (hz : ∀ w, (Go.sizeOf (P.elem t)).run P w = .ok size w) (hi : i < len) : (execOp a.eval o).run P w = .ok (.value (.pointer (some ⟨b, off + i * size, none⟩))) w := by
  unfold execOp
  have h := run_indexAt_slice (P := P) w t ⟨b, off, none⟩ len cap .i64 (i : Int) ht
  rw [if_pos ⟨by omega, by omega⟩, hz w] at h
  have ha : (⟨b, off, none⟩ : Addr).add (i * size) = ⟨b, off + i * size, none⟩ := by
    unfold Addr.add
    by_cases h0 : i * size = 0
    · rw [h0]; simp
    · simp [h0]
  simp only [Int.toNat_natCast] at h
  simp [ho, hx, hy, h, ha]
theorem exec_extract {P : Program} {o : Oper} {a : Act} {w : World} {x : Operand} {i : Nat} {vs : Array Value} {v : Value} (ho : o.op = .extract x i) (hx : a.eval x = .tuple vs) (hi : vs[i]? = some v) : (execOp a.eval o).run P w = .ok (.value v) w := by
  unfold execOp
  simp [ho, hx, Instr.extract, hi]
theorem exec_alloc {P : Program} {o : Oper} {a : Act} {w w' : World} {t : TypeId} {v : Value} (ho : o.op = .alloc t) (hr : (Instr.alloc t true (.tuple #[])).run P w = .ok v w') : (execOp a.eval o).run P w = .ok (.value v) w' := by
  unfold execOp
  simp [ho, hr]
theorem Tryd.alloc27 : ∀ w, (Instr.alloc 28 true (.tuple #[])).run Tryd.prog w = .ok (.pointer (some ⟨w.heap.size, 0, none⟩)) (w.alloc (.cells zeroCells.toArray 28)) := by
  intro w; simp [Instr.alloc, go_sem, zeroCells]; rfl
theorem exec_store_whole {P : Program} {o : Oper} {a : Act} {w : World} {ty : TypeId} {x y : Operand} (ho : o.op = .store ty x y) {g : Nat} (hx : a.eval x = .pointer (some ⟨g, 0, none⟩)) {cs : List Value} (hy : a.eval y = .agg cs.toArray) {n : Nat} (hz : ∀ w, (Go.sizeOf ty).run P w = .ok n w) (hn : cs.length = n)
    {T : TypeId} {cur : Array Value} (hg : w.heap[g]? = some (.cells cur T (0, 0))) (hl : cs.length = cur.size) (h1 : ∀ v ∈ cs, v.oneCell' = true) : (execOp a.eval o).run P w = .ok .skip (w.setRow g cs.toArray) := by
  have hst := run_storeCells_at (P := P) g 0 T cs 0 cur w hg (by omega) h1
  simp only [Nat.add_zero] at hst
  have hst' : (storeVar ty ⟨g, 0, none⟩ (.agg cs.toArray)).run P w = .ok () (w.setRow g cs.toArray) := by
    rw [List.take_zero, List.nil_append, Nat.zero_add, List.drop_eq_nil_of_le (by rw [hl]; simp), List.append_nil] at hst
    simp [storeVar, hz, Value.cells, hn, hst]
  unfold execOp
  simp only [ho, hx, hy, Instr.storeAt, Instr.sureAddr, Sem.run_bind, Sem.run_pure, Result.andThen_ok, hst']
theorem map_one {f : Operand → Value} {x : Operand} {v : Value} (h : f x = v) : #[x].map f = #[v] := by simp [h]
theorem exec_call {P : Program} {o : Oper} {a : Act} {w : World} {f : FuncId} {fn : Func} {xs : Array Operand} {ts : Array TypeId} {args : Array Value} (hf : P.funcs[f]? = some fn) (hname : (fn.name == "runtime.NumGoroutine") = false) (hb : fn.body.isNone = false)
    (ho : o.op = .call { callee := .value (.func f), args := xs, argTypes := ts }) (hx : xs.map a.eval = args) : (execOp a.eval o).run P w = .ok (.enter f args) w := by
  have hname' : ¬ fn.name = "runtime.NumGoroutine" := by simpa using hname
  have hb' : ¬ fn.body = none := fun e => by rw [e] at hb; cases hb
  have hc : (callFunc f args).run P w = .ok (.enter f args) w := by
    simp [callFunc, hf, hname', hb']
  unfold execOp
  simp [ho, resolve, invoke, hx, Act.eval, Deferred.ofValue, hc]

/-- one operation of such a statement whose run is known -/
theorem wp_leaves {P : Program} {o : Oper} {a : Act} {w w1 : World} {K : Act → World → Prop} {Q : Exit → Act → World → Prop} {Φ : Value → World → Prop} {v : Value} (hrun : (execOp a.eval o).run P w = .ok (.value v) w1) (hx : Ext w w1) (hv : Φ v w1) (hk : ∀ v w', Ext w w' → Φ v w' → K (a.put o.dst v) w') : o.wp P a w K Q := by
  unfold Oper.wp
  rw [hrun]
  exact hk v w1 hx hv
theorem wp_enters {P : Program} {o : Oper} {a : Act} {w : World} {K : Act → World → Prop} {Q : Exit → Act → World → Prop} {Φ : Value → World → Prop} {f : FuncId} {args : Array Value} (hrun : (execOp a.eval o).run P w = .ok (.enter f args) w)
    (hc : Calls P f args w fun e w' => ∃ v, e = .returned v ∧ Ext w w' ∧ Φ v w') (hk : ∀ v w', Ext w w' → Φ v w' → K (a.put o.dst v) w') : o.wp P a w K Q := by
  unfold Oper.wp
  rw [hrun]
  refine hc.mono ?_
  rintro e w' ⟨v, rfl, hx, hv⟩
  exact hk v w' hx hv
end Go.Proofs.YtebfoimbdljbmaaDoor

/-
  A row that a call makes itself, of things that may lie anywhere else: one more, later, as a slice. No function of the program. The conditions: none (definitions and lemmas).
-/
namespace Go.Proofs.YtebfoimbdljbmaaDoor
open Go.RowKit

/-- a row of the call's own, whose things lie in memory, not in the row's own block -/
def OwnL {α : Type} (R : Rep α) (T : TypeId) (base : Nat) (W : World) (v : Value) (l : List α) : Prop :=
  ∃ xs, W.ownsRow base T R.size v l.length xs ∧ R.Flat (fun b => b < W.heap.size ∧ v.ownBlock ≠ some b) W l xs
theorem Ext.cell {w w' : World} (h : Ext w w') {b o : Nat} {v : Value} (k : w.cell? ⟨b, o, none⟩ = some v) : w'.cell? ⟨b, o, none⟩ = some v :=
  (World.cell?_of_block (a := ⟨b, o, none⟩) (h.block b (World.block_lt_of_cell? w _ k))).trans k
section
variable {α : Type} {R : Rep α} {T : TypeId} {base : Nat} {W W' : World} {v v' : Value} {l : List α}
theorem OwnL.nil : OwnL R T base W (.slice none 0 0) [] := ⟨[], World.ownsRow_nil _ _ _ _, rfl⟩
theorem OwnL.ext (h : OwnL R T base W v l) (k : Ext W W') : OwnL R T base W' v l := by
  obtain ⟨xs, h1, h2⟩ := h
  exact ⟨xs, ownsRow_ext h1 k, (Rep.Flat.alike (Alike.of_ext k fun b hb => hb.1) h2).mono fun b hb => ⟨Nat.lt_of_lt_of_le hb.1 k.size, hb.2⟩⟩
theorem OwnL.push {x : α} {xs cs : List Value} (hf : R.Flat (fun b => b < W.heap.size ∧ v.ownBlock ≠ some b) W l xs) (hx : R.At (fun b => b < W.heap.size ∧ v.ownBlock ≠ some b) W x cs) (hg : GrownBy W W' v.ownBlock)
    (ho : W'.ownsRow base T R.size v' (l.length + 1) (xs ++ cs)) (hv : v'.ownBlock = v.ownBlock ∨ v'.ownBlock = some W.heap.size) : OwnL R T base W' v' (l ++ [x]) := by
  have hal : Alike (fun b => b < W.heap.size ∧ v.ownBlock ≠ some b) W W' := fun b hb => hg.block b hb.1 fun e => hb.2 e.symm
  refine ⟨xs ++ cs, by simpa using ho, ?_⟩
  refine Rep.Flat.mono (S := fun b => b < W.heap.size ∧ v.ownBlock ≠ some b) (fun b hb => ⟨Nat.lt_of_lt_of_le hb.1 hg.size, fun e => ?_⟩) (Rep.Flat.snoc (R.alike hx hal) (Rep.Flat.alike hal hf))
  rcases hv with hv | hv
  · exact hb.2 (hv ▸ e)
  · rw [hv] at e; injection e with e; have := hb.1; omega
theorem OwnL.rows (h : OwnL R T base W v l) (hl : l.length ≤ LIM) : R.RowsAt (fun b => b < W.heap.size) W l v := by
  obtain ⟨xs, h1, h2⟩ := h
  exact own_rows h1 h2 hl (fun b hb => hb.1) fun b hb => (h1.lt b hb).2
theorem OwnL.shape (h : OwnL R T base W v l) : ∃ A cap, v = .slice A l.length cap := by
  obtain ⟨xs, h1, _⟩ := h
  exact own_shape h1
theorem OwnL.lt (h : OwnL R T base W v l) : ∀ b, v.ownBlock = some b → base ≤ b ∧ b < W.heap.size := by
  obtain ⟨xs, h1, _⟩ := h
  exact h1.lt
end
end Go.Proofs.YtebfoimbdljbmaaDoor

/-
  What the program's places come to: a map from names to where they stand first. The conditions: the entities lie in memory as they should.
-/
namespace Go.Proofs.YtebfoimbdljbmaaDoor
open Go.RowKit

theorem ext_apart {w w1 w2 : World} {r : Option Nat} (h : Ext w w1) (k : GrownBy w1 w2 r) (hr : ∀ b, r = some b → w.heap.size ≤ b) : Ext w w2 :=
  ⟨⟨k.os.trans h.os, k.tape.trans h.tape, k.output.trans h.output, Nat.le_trans h.size k.size, fun i hi => (k.block i (Nat.lt_of_lt_of_le hi h.size) (fun e => by have := hr i e.symm; omega)).trans (h.block i hi)⟩, Nat.le_trans h.drawn k.drawn⟩

end Go.Proofs.YtebfoimbdljbmaaDoor

/-
  Compaction of a row of things of one kind, in its midst. No function of the program. The conditions: none (definitions and lemmas).
-/
namespace Go.Proofs.YtebfoimbdljbmaaDoor
open Go.RowKit

/-! ### rows of k cells -/
theorem flatten_getK {sz : Nat} : ∀ {rows : List (List Value)} {i j : Nat} {cs : List Value} {v : Value}, (∀ r ∈ rows, r.length = sz) → rows[i]? = some cs → cs[j]? = some v → rows.flatten[i * sz + j]? = some v
  | [], _, _, _, _, _, h, _ => by simp at h
  | r :: rs, 0, j, cs, v, hl, h, hj => by
    simp at h; subst h
    rw [List.flatten_cons, List.getElem?_append_left (by simpa using (List.getElem?_eq_some_iff.1 hj).1)]
    simpa using hj
  | r :: rs, i + 1, j, cs, v, hl, h, hj => by
    have h8 := hl r (by simp)
    rw [List.flatten_cons, List.getElem?_append_right (by rw [Nat.succ_mul]; omega), show (i + 1) * sz + j - r.length = i * sz + j by rw [Nat.succ_mul]; omega]
    exact flatten_getK (fun x hx => hl x (by simp [hx])) (by simpa using h) hj
theorem flatten_lengthK {sz : Nat} : ∀ {rows : List (List Value)}, (∀ r ∈ rows, r.length = sz) → rows.flatten.length = rows.length * sz
  | [], _ => by simp
  | r :: rs, hl => by
    have h8 := hl r (by simp)
    rw [List.flatten_cons, List.length_append, flatten_lengthK fun x hx => hl x (by simp [hx]), List.length_cons, Nat.succ_mul]
    omega
theorem flatten_setK {sz : Nat} : ∀ {rows : List (List Value)} {i : Nat} {cs : List Value}, (∀ r ∈ rows, r.length = sz) → i < rows.length → cs.length = sz →
    rows.flatten.take (i * sz) ++ cs ++ rows.flatten.drop (i * sz + sz) = (rows.set i cs).flatten
  | [], _, _, _, h, _ => by simp at h
  | r :: rs, 0, cs, hl, _, hc => by
    have h8 := hl r (by simp)
    simp [h8]
  | r :: rs, i + 1, cs, hl, h, hc => by
    have h8 := hl r (by simp)
    have ih := flatten_setK (rows := rs) (i := i) (cs := cs) (fun x hx => hl x (by simp [hx])) (by simpa using h) hc
    rw [List.set_cons_succ, List.flatten_cons, List.flatten_cons, ← ih]
    rw [List.take_append, List.drop_append, List.take_of_length_le (by rw [Nat.succ_mul]; omega), List.drop_eq_nil_iff.2 (by rw [Nat.succ_mul]; omega), show (i + 1) * sz - r.length = i * sz by rw [Nat.succ_mul]; omega, show (i + 1) * sz + sz - r.length = i * sz + sz by rw [Nat.succ_mul]; omega]
    simp
theorem flatten_takeK {sz : Nat} : ∀ {rows : List (List Value)} {k : Nat}, (∀ r ∈ rows, r.length = sz) → (rows.take k).flatten = rows.flatten.take (k * sz)
  | [], _, _ => by simp
  | r :: rs, 0, _ => by simp
  | r :: rs, k + 1, hl => by
    have h8 := hl r (by simp)
    rw [List.take_succ_cons, List.flatten_cons, List.flatten_cons, flatten_takeK (rows := rs) (k := k) fun x hx => hl x (by simp [hx]), List.take_append, List.take_of_length_le (l := r) (by rw [Nat.succ_mul]; omega), show (k + 1) * sz - r.length = k * sz by rw [Nat.succ_mul]; omega]

/-- in the midst of compaction: the first kk rows are what is kept of so many, the rows from a place on are as they were -/
structure MidG {α : Type} (R : Rep α) (c : α → α → Int) (S : Nat → Prop) (w : World) (g cap : Nat) (T : TypeId) (l : List α) (n0 kk q : Nat) (wr : World) : Prop where
  grown : GrownBy w wr (some g)
  len : (dedup c (l.take (n0 + q + 1))).length = kk
  le : kk ≤ n0 + q
  rows : ∃ rows : List (List Value), wr.heap[g]? = some (.cells rows.flatten.toArray T (0, 0)) ∧ rows.length = cap ∧ (∀ r ∈ rows, r.length = R.size) ∧
    (∀ (i : Nat) (x : α), (dedup c (l.take (n0 + q + 1)))[i]? = some x → ∃ cs, rows[i]? = some cs ∧ R.At S w x cs) ∧ (∀ (i : Nat) (x : α), n0 + q ≤ i → l[i]? = some x → ∃ cs, rows[i]? = some cs ∧ R.At S w x cs)

theorem MidG.ext {α : Type} {R : Rep α} {c : α → α → Int} {S : Nat → Prop} {w wr w' : World} {g cap : Nat} {T : TypeId} {l : List α} {n0 kk q : Nat} (h : MidG R c S w g cap T l n0 kk q wr) (k : Ext wr w') : MidG R c S w g cap T l n0 kk q w' := by
  obtain ⟨rows, h1, h2⟩ := h.rows
  exact ⟨h.grown.trans (GrownBy.of_ext _ k), h.len, h.le, rows, (k.block _ (Blk_lt h1)).trans h1, h2⟩

theorem MidG.alike {α : Type} {R : Rep α} {c : α → α → Int} {S : Nat → Prop} {w wr : World} {g cap : Nat} {T : TypeId} {l : List α} {n0 kk q : Nat} (h : MidG R c S w g cap T l n0 kk q wr) (hS : ∀ b, S b → b < w.heap.size) (hg : ¬ S g) : Alike S w wr :=
  fun b hb => h.grown.block b (hS b hb) (fun e => by injection e with e; subst e; exact hg hb)

theorem MidG.old {α : Type} {R : Rep α} {c : α → α → Int} {S : Nat → Prop} {w wr : World} {g cap : Nat} {T : TypeId} {l : List α} {n0 kk q : Nat} {x y : α} (h : MidG R c S w g cap T l n0 kk q wr) (hx : l[n0 + q]? = some x) (hy : l[n0 + q + 1]? = some y) (h0 : c y x = 0) :
    MidG R c S w g cap T l n0 kk (q + 1) wr := by
  have hd : dedup c (l.take (n0 + q + 1 + 1)) = dedup c (l.take (n0 + q + 1)) := by rw [dedup_take_succ hx hy, if_pos h0, List.append_nil]
  obtain ⟨rows, h1, h2, h3, h4, h5⟩ := h.rows
  refine ⟨h.grown, ?_, by have := h.le; omega, rows, h1, h2, h3, ?_, fun i z hi => h5 i z (by omega)⟩
  · rw [show n0 + (q + 1) + 1 = n0 + q + 1 + 1 by omega, hd]; exact h.len
  · rw [show n0 + (q + 1) + 1 = n0 + q + 1 + 1 by omega, hd]; exact h4

theorem MidG.new {α : Type} {R : Rep α} {c : α → α → Int} {S : Nat → Prop} {w wr : World} {g cap : Nat} {T : TypeId} {l : List α} {n0 kk q : Nat} {x y : α} {cur : Array Value} {cs : List Value} (h : MidG R c S w g cap T l n0 kk q wr) (hx : l[n0 + q]? = some x) (hy : l[n0 + q + 1]? = some y) (h0 : c y x ≠ 0)
    (hcur : wr.heap[g]? = some (.cells cur T (0, 0))) (hcs : R.At S w y cs) (hcap : l.length ≤ cap) :
    MidG R c S w g cap T l n0 (kk + 1) (q + 1) (wr.setRow g (cur.toList.take (kk * R.size) ++ cs ++ cur.toList.drop (kk * R.size + cs.length)).toArray) := by
  have hd : dedup c (l.take (n0 + q + 1 + 1)) = dedup c (l.take (n0 + q + 1)) ++ [y] := by rw [dedup_take_succ hx hy, if_neg h0]
  obtain ⟨rows, h1, h2, h3, h4, h5⟩ := h.rows
  rw [h1] at hcur
  injection hcur with hcur
  injection hcur with hcur
  subst hcur
  have hle := h.le
  have hyl : n0 + q + 1 < l.length := (List.getElem?_eq_some_iff.1 hy).1
  have h8 := R.len hcs
  have hk : kk < rows.length := by omega
  have hset : (rows.flatten.toArray.toList.take (kk * R.size) ++ cs ++ rows.flatten.toArray.toList.drop (kk * R.size + cs.length)) = (rows.set kk cs).flatten := by
    rw [h8]; simpa using flatten_setK h3 hk h8
  rw [hset]
  refine ⟨h.grown.trans (GrownBy.setRow _ _ _), ?_, by omega, rows.set kk cs, heap_setRow h1 _, by simpa using h2, fun r hr => ?_, fun i z hi => ?_, fun i z hi hz => ?_⟩
  · rw [show n0 + (q + 1) + 1 = n0 + q + 1 + 1 by omega, hd, List.length_append, h.len]; rfl
  · rcases List.mem_or_eq_of_mem_set hr with hr | rfl
    · exact h3 r hr
    · exact h8
  · rw [show n0 + (q + 1) + 1 = n0 + q + 1 + 1 by omega, hd] at hi
    by_cases hik : i < kk
    · rw [List.getElem?_append_left (by rw [h.len]; exact hik)] at hi
      obtain ⟨c, hc, hat⟩ := h4 i z hi
      exact ⟨c, by rw [List.getElem?_set_ne (by omega)]; exact hc, hat⟩
    · rw [List.getElem?_append_right (by rw [h.len]; omega), h.len] at hi
      have : i = kk := by
        have := (List.getElem?_eq_some_iff.1 hi).1
        simp at this; omega
      subst this
      simp at hi; subst hi
      exact ⟨cs, by rw [List.getElem?_set_self hk], hcs⟩
  · obtain ⟨c, hc, hat⟩ := h5 i z (by omega) hz
    exact ⟨c, by rw [List.getElem?_set_ne (by omega)]; exact hc, hat⟩

/-- what is kept is a row of its own -/
theorem MidG.finish {α : Type} {R : Rep α} {c : α → α → Int} {S : Nat → Prop} {w wr w' : World} {base g cap : Nat} {T : TypeId} {l : List α} {n0 kk q : Nat} (h : MidG R c S w g cap T l n0 kk q wr) (hq : n0 + q + 1 = l.length) (hg : base ≤ g) (hcap : l.length ≤ cap) (hcm : cap ≤ maxLen)
    (hgl : g < w.heap.size) (hS : ∀ b, S b → base ≤ b ∧ b < w.heap.size ∧ b ≠ g) (zs : List Value) (hz : zs.length = (l.length - kk) * R.size) {cur : Array Value} (hcur : wr.heap[g]? = some (.cells cur T (0, 0)))
    (hw : w' = wr.setRow g (cur.toList.take (kk * R.size) ++ zs ++ cur.toList.drop (kk * R.size + zs.length)).toArray) :
    ∃ xs', w'.ownsRow base T R.size (.slice (some ⟨g, 0, none⟩) kk cap) (dedup c l).length xs' ∧ R.Flat (Made base w' (.slice (some ⟨g, 0, none⟩) kk cap)) w' (dedup c l) xs' ∧ Below base w w' ∧ w.drawn ≤ w'.drawn := by
  have hgr := h.grown
  obtain ⟨rows, h1, h2, h3, h4, h5⟩ := h.rows
  have hlen := h.len
  have hle := h.le
  rw [hq, List.take_length] at hlen h4
  rw [h1] at hcur
  injection hcur with hcur
  injection hcur with hcur
  subst hcur
  have hgr' : GrownBy w w' (some g) := by rw [hw]; exact hgr.trans (GrownBy.setRow _ _ _)
  have hh := heap_setRow h1 (rows.flatten.toArray.toList.take (kk * R.size) ++ zs ++ rows.flatten.toArray.toList.drop (kk * R.size + zs.length)).toArray
  rw [← hw] at hh
  have hfl := flatten_lengthK h3
  have m1 : kk * R.size ≤ l.length * R.size := Nat.mul_le_mul_right _ (by omega)
  have m2 : l.length * R.size ≤ cap * R.size := Nat.mul_le_mul_right _ hcap
  rw [Nat.sub_mul] at hz
  rw [h2] at hfl
  refine ⟨rows.flatten.take (kk * R.size), ⟨by rw [List.length_take, hfl, hlen]; omega, .inr ⟨g, cap, _, by rw [hlen], hg, hh, by omega, hcm, ?_, ?_⟩⟩, ?_, ⟨hgr'.os, hgr'.tape, hgr'.output, hgr'.size, fun b hb => hgr'.block b ?_ ?_⟩, hgr'.drawn⟩
  · simp only [List.size_toArray, List.length_append, List.length_take, List.length_drop, hfl, hz]; omega
  · rw [hlen]
    dsimp only
    rw [List.append_assoc, List.take_append_of_le_length (by rw [List.length_take, hfl]; omega), List.take_of_length_le (by rw [List.length_take, hfl]; omega)]
  · rw [← flatten_takeK h3]
    have hal : Alike S w w' := fun b hb => hgr'.block b (hS b hb).2.1 (fun e => by injection e with e; exact (hS b hb).2.2 e)
    have key : ∀ (d : List α) (rs : List (List Value)), rs.length = d.length → (∀ (i : Nat) (x : α), d[i]? = some x → ∃ cs, rs[i]? = some cs ∧ R.At S w x cs) → R.Flat S w' d rs.flatten := by
      intro d
      induction d with
      | nil => intro rs hr _; have : rs = [] := List.eq_nil_of_length_eq_zero hr; subst this; rfl
      | cons x r ih =>
        intro rs hr hd
        cases rs with
        | nil => simp at hr
        | cons c cs =>
          obtain ⟨c', hc', hat⟩ := hd 0 x rfl
          simp at hc'; subst hc'
          exact ⟨c, cs.flatten, by simp, R.alike hat hal, ih cs (by simpa using hr) fun i y hy => by simpa using hd (i + 1) y (by simpa using hy)⟩
    refine (key (dedup c l) (rows.take kk) (by rw [List.length_take, hlen]; omega) fun i x hi => ?_).mono fun b hb => ⟨(hS b hb).1, Nat.lt_of_lt_of_le (hS b hb).2.1 hgr'.size, fun e => (hS b hb).2.2 (by injection e with e; exact e.symm)⟩
    have hik : i < kk := by rw [← hlen]; exact (List.getElem?_eq_some_iff.1 hi).1
    rw [List.getElem?_take, if_pos hik]
    exact h4 i x hi
  · omega
  · intro e; injection e with e; omega

end Go.Proofs.YtebfoimbdljbmaaDoor

/-
  The library's functions on rows of names: which one stands first, a copy, compaction; '==' of two names. The conditions: none beyond each contract's own.
-/
namespace Go.Proofs.YtebfoimbdljbmaaDoor
open Go.RowKit



theorem uidFlat_any {S S' : Nat → Prop} {w w' : World} : ∀ {l : List Uid} {xs : List Value}, uidR.Flat S w l xs → uidR.Flat S' w' l xs
  | [], _, h => h
  | _ :: _, _, ⟨c, ys, e, hv, hr⟩ => ⟨c, ys, e, hv, uidFlat_any hr⟩
end Go.Proofs.YtebfoimbdljbmaaDoor
