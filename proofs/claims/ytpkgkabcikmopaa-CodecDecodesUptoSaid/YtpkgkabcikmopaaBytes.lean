/-
  Rows of bytes: appended to, read as strings. The conditions: none (definitions and lemmas).
-/
import Derived.Test.YtpkgkabcikmopaaStage
import Derived.Test.YtpkgkabcikmopaaEnc
import Derived.Test.YtpkgkabcikmopaaBox
import Derived.Lib.AppendStr
import Derived.Laws.BytesArg
import Derived.Laws.OwnMore
import Derived.OwnWalk
namespace Go.Proofs.Ytpkgkabcikmopaa
open Go.RowKit

def cellsB (bs : List UInt8) : List Value := bs.map fun b => .int .u8 b.toNat
theorem cellsB_length (bs : List UInt8) : (cellsB bs).length = bs.length := by simp [cellsB]
theorem cellsB_append (bs ns : List UInt8) : cellsB (bs ++ ns) = cellsB bs ++ cellsB ns := by simp [cellsB]
theorem cellsB_one (bs : List UInt8) : ∀ u ∈ cellsB bs, u.oneCell' = true := by
  intro u hu
  simp only [cellsB, List.mem_map] at hu
  obtain ⟨b, _, rfl⟩ := hu
  rfl
theorem cellsB_get {bs : List UInt8} {i : Nat} {b : UInt8} (h : bs[i]? = some b) : (cellsB bs)[i]? = some (.int .u8 b.toNat) := by
  unfold cellsB; rw [List.getElem?_map, h]; rfl
theorem strCells_eq (s : ByteArray) : Lib.strCells s = cellsB s.data.toList := rfl
def strOf (bs : List UInt8) : ByteArray := ⟨bs.toArray⟩
theorem strOf_inj {a b : List UInt8} (h : strOf a = strOf b) : a = b := by
  unfold strOf at h
  injection h with h
  simpa using congrArg Array.toList h
theorem strOf_data (bs : List UInt8) : (strOf bs).data.toList = bs := by simp [strOf]
theorem strOf_size (bs : List UInt8) : (strOf bs).size = bs.length := by simp [strOf, ByteArray.size]

/-- bytes that the call owns -/
def ByteRow (base : Nat) (w : World) (o : Value) (bs : List UInt8) : Prop := w.ownsRow base 5 1 o bs.length (cellsB bs)
/-- one row of the call's own has become another; nothing else that was there has turned -/
structure Put (w w' : World) (o o' : Value) : Prop where
  grown : GrownBy w w' o.ownBlock
  own : ∀ b, o'.ownBlock = some b → o.ownBlock = some b ∨ w.heap.size ≤ b
theorem Put.of_ext {w w' : World} (h : Ext w w') (o : Value) : Put w w' o o := ⟨GrownBy.of_ext _ h, fun _ h => .inl h⟩
theorem Put.trans {w w1 w2 : World} {o o1 o2 : Value} (h : Put w w1 o o1) (k : Put w1 w2 o1 o2) : Put w w2 o o2 := by
  refine ⟨⟨⟨k.grown.os.trans h.grown.os, k.grown.tape.trans h.grown.tape, k.grown.output.trans h.grown.output, Nat.le_trans h.grown.size k.grown.size, fun b hb hne => ?_⟩, Nat.le_trans h.grown.drawn k.grown.drawn⟩, fun b hb => ?_⟩
  · have s := h.grown.size
    rw [k.grown.block b (by omega) (fun e => ?_), h.grown.block b hb hne]
    rcases h.own b e.symm with h1 | h1
    · exact hne h1.symm
    · omega
  · rcases k.own b hb with h1 | h1
    · exact h.own b h1
    · exact .inr (Nat.le_trans h.grown.size h1)
theorem Put.ext {w w' : World} {o' : Value} (h : Put w w' (.slice none 0 0) o') : Ext w w' := ⟨⟨h.grown.os, h.grown.tape, h.grown.output, h.grown.size, fun b hb => h.grown.block b hb (fun e => by cases e)⟩, h.grown.drawn⟩
theorem Put.alike {S : Nat → Prop} {w w' : World} {o o' : Value} (h : Put w w' o o') (hS : ∀ b, S b → b < w.heap.size ∧ o.ownBlock ≠ some b) : Alike S w w' := fun b hb => h.grown.block b (hS b hb).1 (fun e => (hS b hb).2 e.symm)
theorem Put.apart {S : Nat → Prop} {w w' : World} {o o' : Value} (h : Put w w' o o') (hS : ∀ b, S b → b < w.heap.size ∧ o.ownBlock ≠ some b) : ∀ b, S b → b < w'.heap.size ∧ o'.ownBlock ≠ some b := fun b hb => by
  obtain ⟨h1, h2⟩ := hS b hb
  refine ⟨Nat.lt_of_lt_of_le h1 h.grown.size, fun e => ?_⟩
  rcases h.own b e with h3 | h3
  · exact h2 h3
  · omega
theorem ByteRow.ext {base : Nat} {w w' : World} {o : Value} {bs : List UInt8} (h : ByteRow base w o bs) (k : Ext w w') : ByteRow base w' o bs := ownsRow_ext h k
theorem ByteRow.base {base base' : Nat} {w : World} {o : Value} {bs : List UInt8} (h : ByteRow base w o bs) (k : base' ≤ base) : ByteRow base' w o bs := ownsRow_base h k
theorem ByteRow.nil (base : Nat) (w : World) : ByteRow base w (.slice none 0 0) [] := World.ownsRow_nil _ _ _ _
theorem ByteRow.shape {base : Nat} {w : World} {o : Value} {bs : List UInt8} (h : ByteRow base w o bs) : ∃ A c, o = .slice A bs.length c ∧ SrcAt w A bs.length (cellsB bs) ∧ bs.length ≤ c ∧ c ≤ maxLen := by
  obtain ⟨A, c, rfl⟩ := own_shape h
  obtain ⟨h1, h2, h3⟩ := own_src h
  refine ⟨A, c, rfl, fun h0 => ?_, h1, h2⟩
  obtain ⟨g, e, _, _, hc⟩ := h3 h0
  exact ⟨g, 0, e, hc⟩
theorem ByteRow.lt {base : Nat} {w : World} {o : Value} {bs : List UInt8} (h : ByteRow base w o bs) : ∀ b, o.ownBlock = some b → base ≤ b ∧ b < w.heap.size := World.ownsRow.lt h

theorem Try.info5 : (Try.prog.info? 5).map (fun i => (i.zero, i.size, i.bytes)) = some (some (.int .u8 0), 1, 1) := by kernel_rfl

set_option maxRecDepth 100000 in
/-- append of bytes, as a run -/
theorem exec_append_bytes {o : Oper} {a : Act} {w : World} (s x : Operand) (ho : o.op = .call { callee := .builtin .append, args := #[s, x], argTypes := #[47, 47] }) (base : Nat) (ov : Value) (bs : List UInt8) (hs : a.eval s = ov) (hrow : ByteRow base w ov bs)
    (A : Option Addr) (c : Nat) (ns : List UInt8) (hx : a.eval x = .slice A ns.length c) (hsrc : SrcAt w A ns.length (cellsB ns)) (hb : bs.length + ns.length ≤ 70368744177664) (hbase : base ≤ w.heap.size) :
    ∃ v' w', (execOp a.eval o).run Try.prog w = .ok (.value v') w' ∧ ByteRow base w' v' (bs ++ ns) ∧ Put w w' ov v' := by
  obtain ⟨i5, hi, hz, hs1, hb1⟩ := info_parts Try.info5
  have key : ∃ v' w', (Builtin.append_ #[47, 47] o.type #[ov, .slice A ns.length c]).run Try.prog w = .ok v' w' ∧ w'.ownsRow base 5 1 v' (bs.length + ns.length) (cellsB bs ++ cellsB ns) ∧ GrownBy w w' ov.ownBlock ∧ (v'.ownBlock = ov.ownBlock ∨ v'.ownBlock = some w.heap.size) := by
    cases A with
    | none =>
      have hm : ns.length = 0 := by
        rcases Nat.eq_zero_or_pos ns.length with h0 | h0
        · exact h0
        · obtain ⟨_, _, h, _⟩ := hsrc h0; cases h
      have hn : ns = [] := List.eq_nil_of_length_eq_zero hm
      subst hn
      exact ⟨ov, w, run_append_of_nil base _ _ 5 i5 1 Try.underlying47 hi ov bs.length (cellsB bs) hrow c, (by show w.ownsRow base 5 1 ov (bs.length + 0) (cellsB bs ++ []); rw [Nat.add_zero, List.append_nil]; exact hrow), GrownBy.of_ext _ (Ext.refl w), .inl rfl⟩
    | some ad =>
      obtain ⟨v', w', hrun, h2, h3, _, h4⟩ := run_append_own_at (P := Try.prog) w base 47 o.type 5 i5 (.int .u8 0) 1 1 Try.underlying47 hi hz hs1 hb1 rfl (by decide) ov bs.length (cellsB bs) hrow ad ns.length c (cellsB ns) (by rw [cellsB_length]; omega) (fun j u hj => by
        have h0 : 0 < ns.length := by
          have := (List.getElem?_eq_some_iff.1 hj).1
          rw [cellsB_length] at this; omega
        obtain ⟨b, of, he, hc⟩ := hsrc h0
        injection he with he; subst he
        exact cell_add hc j u hj) (cellsB_one ns) (by rw [maxLen_eq]; omega) (by omega) hbase
      exact ⟨v', w', hrun, h2, ⟨h3, run_drawn _ _ _ _ hrun⟩, h4⟩
  obtain ⟨v', w', hrun, h2, h3, h4⟩ := key
  refine ⟨v', w', ?_, ?_, h3, fun b hb' => ?_⟩
  · unfold execOp
    simp only [ho, resolve, invoke, builtin, Sem.run_bind, Sem.run_pure, Result.andThen_ok, List.map_toArray, List.map_cons, List.map_nil, hs, hx, hrun]
  · unfold ByteRow; rw [List.length_append, cellsB_append]; exact h2
  · rcases h4 with h4 | h4
    · exact .inl (h4 ▸ hb')
    · rw [h4] at hb'; injection hb' with hb'; exact .inr (by omega)
theorem wp_append_bytes {o : Oper} {a : Act} {w : World} {K : Act → World → Prop} {Q : Exit → Act → World → Prop} (s x : Operand) (ho : o.op = .call { callee := .builtin .append, args := #[s, x], argTypes := #[47, 47] }) (base : Nat) (ov : Value) (bs : List UInt8) (hs : a.eval s = ov) (hrow : ByteRow base w ov bs)
    (A : Option Addr) (c : Nat) (ns : List UInt8) (hx : a.eval x = .slice A ns.length c) (hsrc : SrcAt w A ns.length (cellsB ns)) (hb : bs.length + ns.length ≤ 70368744177664) (hbase : base ≤ w.heap.size)
    (h : ∀ v' w', ByteRow base w' v' (bs ++ ns) → Put w w' ov v' → K (a.put o.dst v') w') : o.wp Try.prog a w K Q := by
  obtain ⟨v', w', hrun, h1, h2⟩ := exec_append_bytes s x ho base ov bs hs hrow A c ns hx hsrc hb hbase
  unfold Oper.wp
  rw [hrun]
  exact h v' w' h1 h2
theorem wpList_append_bytes {ops : Array Oper} {rest : List Oper} {o : Oper} {a : Act} {Q : Exit → Act → World → Prop} {w : World} (hgd : o.guard = none) (s x : Operand) (ho : o.op = .call { callee := .builtin .append, args := #[s, x], argTypes := #[47, 47] }) (base : Nat) (ov : Value) (bs : List UInt8) (hs : a.eval s = ov) (hrow : ByteRow base w ov bs)
    (A : Option Addr) (c : Nat) (ns : List UInt8) (hx : a.eval x = .slice A ns.length c) (hsrc : SrcAt w A ns.length (cellsB ns)) (hb : bs.length + ns.length ≤ 70368744177664) (hbase : base ≤ w.heap.size)
    (h : ∀ v' w', ByteRow base w' v' (bs ++ ns) → Put w w' ov v' → wpList Try.prog ops Q rest (a.put o.dst v') w') : wpList Try.prog ops Q (o :: rest) a w :=
  wpList_plain hgd fun K hK => by
    obtain ⟨v', w', hrun, h1, h2⟩ := exec_append_bytes s x ho base ov bs hs hrow A c ns hx hsrc hb hbase
    unfold Oper.wp
    rw [hrun]
    exact hK _ _ (h v' w' h1 h2)

/-- append of a string's bytes, as a run -/
theorem run_append_str_at {P : Program} {w : World} (base : Nat) (t u ty e : TypeId) (i : TypeInfo) (ht : P.underlying t = some (.slice e)) (hu : P.underlying u = some .string) (hi : P.info? e = some i) (hz : i.zero = some (.int .u8 0))
    (hsize : i.size = 1) (hby : i.bytes = 1) (v : Value) (n : Nat) (xs : List Value) (hown : w.ownsRow base e 1 v n xs) (s : ByteArray) (h63 : n + s.size ≤ maxLen) (hbytes : n + s.size ≤ 140737488355328) (hbase : base ≤ w.heap.size) :
    ∃ v' w', (Builtin.append_ #[t, u] ty #[v, .string s]).run P w = .ok v' w' ∧ w'.ownsRow base e 1 v' (n + s.size) (xs ++ Lib.strCells s) ∧ w.grownBy w' v.ownBlock ∧ (v'.ownBlock = v.ownBlock ∨ v'.ownBlock = some w.heap.size) := by
  obtain ⟨v', w', hrun, h1, h2, h3⟩ := Lib.run_append_own_string w base t u ty e i ht hu hi hz hsize hby v n xs hown s h63 hbytes hbase
  refine ⟨v', w', hrun, h1, h2, ?_⟩
  have hsmall : n + s.size ≤ 9223372036854775807 := by simp only [maxLen] at h63; omega
  have hxl : xs.length = n := by simpa using hown.1
  rcases hown.2 with ⟨rfl, rfl⟩ | ⟨g, cap, cur, rfl, hbg, hg, hnc, hcm, hcs, htake⟩
  · by_cases hm : s.size = 0
    · exact .inl (by rw [h3.2 ⟨rfl, hm⟩])
    · have hr := run_append_nil_string (P := P) w t u ty e i (.int .u8 0) ht hu hi hz s (by omega) (by omega) (by rw [hby]; omega)
      rw [hr] at hrun
      injection hrun with e1 _
      exact .inr (by rw [← e1]; rfl)
  · by_cases hroom : n + s.size ≤ cap
    · have hcs' : cur.size = cap := by simpa using hcs
      have hr := Lib.run_append_room_string (P := P) w t u ty e i ht hu hi hsize g n cap cur hg s hroom (by omega)
      rw [hr] at hrun
      injection hrun with e1 _
      exact .inl (by rw [← e1]; rfl)
    · have holds : ∀ j u, xs[j]? = some u → w.cell? ((⟨g, 0, none⟩ : Addr).add j) = some u := hown.cells (g := g) rfl
      have hr := Lib.run_append_grow_string (P := P) w t u ty e i (.int .u8 0) ht hu hi hz ⟨g, 0, none⟩ n cap xs (by rw [hsize]; simpa using hxl) holds s (by omega) (by omega) (by rw [hby]; exact growslice_fits (by omega) (by omega))
      rw [hr] at hrun
      injection hrun with e1 _
      exact .inr (by rw [← e1]; rfl)
set_option maxRecDepth 100000 in
theorem exec_append_str {o : Oper} {a : Act} {w : World} (s x : Operand) (ho : o.op = .call { callee := .builtin .append, args := #[s, x], argTypes := #[47, 9] }) (base : Nat) (ov : Value) (bs : List UInt8) (hs : a.eval s = ov) (hrow : ByteRow base w ov bs)
    (t : ByteArray) (hx : a.eval x = .string t) (hb : bs.length + t.size ≤ 70368744177664) (hbase : base ≤ w.heap.size) :
    ∃ v' w', (execOp a.eval o).run Try.prog w = .ok (.value v') w' ∧ ByteRow base w' v' (bs ++ t.data.toList) ∧ Put w w' ov v' := by
  obtain ⟨i5, hi, hz, hs1, hb1⟩ := info_parts Try.info5
  obtain ⟨v', w', hrun, h2, h3, h4⟩ := run_append_str_at (P := Try.prog) (w := w) base 47 9 o.type 5 i5 Try.underlying47 Try.underlying9 hi hz hs1 hb1 ov bs.length (cellsB bs) hrow t (by rw [maxLen_eq]; omega) (by omega) hbase
  refine ⟨v', w', ?_, ?_, ⟨h3, run_drawn _ _ _ _ hrun⟩, fun b hb' => ?_⟩
  · unfold execOp
    simp only [ho, resolve, invoke, builtin, Sem.run_bind, Sem.run_pure, Result.andThen_ok, List.map_toArray, List.map_cons, List.map_nil, hs, hx, hrun]
  · unfold ByteRow
    rw [List.length_append, cellsB_append, show t.data.toList.length = t.size from by rw [Array.length_toList]; rfl]
    exact h2
  · rcases h4 with h4 | h4
    · exact .inl (h4 ▸ hb')
    · rw [h4] at hb'; injection hb' with hb'; exact .inr (by omega)
theorem wpList_append_str {ops : Array Oper} {rest : List Oper} {o : Oper} {a : Act} {Q : Exit → Act → World → Prop} {w : World} (hgd : o.guard = none) (s x : Operand) (ho : o.op = .call { callee := .builtin .append, args := #[s, x], argTypes := #[47, 9] }) (base : Nat) (ov : Value) (bs : List UInt8) (hs : a.eval s = ov) (hrow : ByteRow base w ov bs)
    (t : ByteArray) (hx : a.eval x = .string t) (hb : bs.length + t.size ≤ 70368744177664) (hbase : base ≤ w.heap.size)
    (h : ∀ v' w', ByteRow base w' v' (bs ++ t.data.toList) → Put w w' ov v' → wpList Try.prog ops Q rest (a.put o.dst v') w') : wpList Try.prog ops Q (o :: rest) a w :=
  wpList_plain hgd fun K hK => by
    obtain ⟨v', w', hrun, h1, h2⟩ := exec_append_str s x ho base ov bs hs hrow t hx hb hbase
    unfold Oper.wp
    rw [hrun]
    exact hK _ _ (h v' w' h1 h2)

set_option maxRecDepth 100000 in
/-- bytes as a string -/
theorem Try.run_strOf {w : World} {A : Option Addr} {c : Nat} {bs : List UInt8} (hs : SrcAt w A bs.length (cellsB bs)) : (convert 47 9 (.slice A bs.length c)).run Try.prog w = .ok (.string (strOf bs)) w := by
  cases A with
  | none =>
    have hm : bs.length = 0 := by
      rcases Nat.eq_zero_or_pos bs.length with h0 | h0
      · exact h0
      · obtain ⟨_, _, h, _⟩ := hs h0; cases h
    have hn : bs = [] := List.eq_nil_of_length_eq_zero hm
    subst hn
    exact run_convert_bytes_nil w _ 5 Try.underlying47 Try.underlying5 0 c _ Try.underlying9
  | some a =>
    rcases Nat.eq_zero_or_pos bs.length with h0 | h0
    · have hn : bs = [] := List.eq_nil_of_length_eq_zero h0
      subst hn
      rw [run_convert_bytes_string w _ _ 5 _ _ c Try.underlying47 Try.underlying5 Try.underlying9]
      show (Conv.bytesToString (.slice (some a) 0 c)).run Try.prog w = _
      rw [run_bytesToString w a 0 c [] (by simp [loadCells, loadCellsFrom])]
      rfl
    · obtain ⟨b, of, e, hc⟩ := hs h0
      injection e with e; subst e
      have := run_convert_bytes_arg (P := Try.prog) w 47 5 Try.underlying47 Try.underlying5 b of bs.length c (bs.map fun x => (x.toNat : Int)) (by simp) (fun i hi => by
        have h1 := hc i (.int .u8 bs[i].toNat) (cellsB_get (List.getElem?_eq_getElem hi))
        rw [h1]; simp [List.getD, hi]) 9 Try.underlying9
      rw [this]
      congr 2
      simp [strOfNums, strOf]
      rw [show ((fun n : Int => UInt8.ofNat n.toNat) ∘ fun x : UInt8 => (x.toNat : Int)) = id from funext fun x => by simp]
      simp
theorem wpList_str {ops : Array Oper} {rest : List Oper} {o : Oper} {a : Act} {Q : Exit → Act → World → Prop} {w : World} (hgd : o.guard = none) (x : Operand) (ho : o.op = .convert 47 9 x)
    (A : Option Addr) (c : Nat) (bs : List UInt8) (hx : a.eval x = .slice A bs.length c) (hs : SrcAt w A bs.length (cellsB bs)) (h : wpList Try.prog ops Q rest (a.put o.dst (.string (strOf bs))) w) : wpList Try.prog ops Q (o :: rest) a w :=
  wpList_plain hgd fun K hK => by
    unfold Oper.wp execOp
    simp only [ho, hx, Sem.run_bind, Try.run_strOf hs, Result.andThen_ok, Sem.run_pure]
    exact hK _ _ h
set_option maxRecDepth 100000 in
/-- so many zero bytes, new -/
theorem wpList_make_bytes {ops : Array Oper} {rest : List Oper} {o : Oper} {a : Act} {Q : Exit → Act → World → Prop} {w : World} (hgd : o.guard = none) (l c : Operand) (hop : o.op = .makeSlice 47 l c) (n : Nat) (hl : a.eval l = .int .i64 n) (hc : a.eval c = .int .i64 n) (hn : n ≤ 1048576)
    (hK : ∀ w', w'.heap[w.heap.size]? = some (.cells (Array.replicate n (Value.int .u8 0)) 5 (0, 0)) → Ext w w' → wpList Try.prog ops Q rest (a.put o.dst (.slice (some ⟨w.heap.size, 0, none⟩) n n)) w') : wpList Try.prog ops Q (o :: rest) a w :=
  wpList_plain hgd fun K hK' => by
    obtain ⟨i5, hi, hz, hs1, hb1⟩ := info_parts Try.info5
    obtain ⟨w', hrun, hown, hgrow⟩ := run_make_full (P := Try.prog) w w.heap.size 47 5 i5 (.int .u8 0) 1 Try.underlying47 hi hz hs1 .i64 .i64 n (by rw [hb1]; omega) (by rw [maxLen_eq]; omega) (Nat.le_refl _)
    have hcur : w'.heap[w.heap.size]? = some (.cells (Array.replicate n (Value.int .u8 0)) 5 (0, 0)) := by
      obtain ⟨h1, h2⟩ := hown
      rcases h2 with ⟨h2, h3⟩ | ⟨g, cap, cur, h2, _, h3, _, _, h4, h5⟩
      · cases h2
      · injection h2 with e1 _ e3
        injection e1 with e1
        injection e1 with e1 _
        subst e1 e3
        rw [List.take_of_length_le (by simp [h4]), Nat.mul_one, show (Value.int .u8 0).cells = #[Value.int .u8 0] from rfl, toList_madeCells_one] at h5
        rw [h3, show Array.replicate n (Value.int .u8 0) = cur from Array.ext' (by rw [h5]; simp)]
    have hx : Ext w w' := ⟨⟨hgrow.os, hgrow.tape, hgrow.output, hgrow.size, fun b hb => hgrow.block b hb (fun e => by cases e)⟩, run_drawn _ _ _ _ hrun⟩
    unfold Oper.wp
    simp [execOp, hop, hl, hc, hrun, Result.andThen]
    exact hK' _ _ (hK w' hcur hx)
end Go.Proofs.Ytpkgkabcikmopaa
