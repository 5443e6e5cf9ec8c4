/-
  The library's compaction of a row of values that a call has made itself. The conditions: none beyond the contract's own.
-/
import Derived.Test.YtpkgkabcikmopaaItems
import Derived.Laws.CopyRow
namespace Go.Proofs.Ytpkgkabcikmopaa
open Go.RowKit

/-! ### rows of eight cells -/
theorem flatten_get : ∀ {rows : List (List Value)} {i j : Nat} {cs : List Value} {v : Value}, (∀ r ∈ rows, r.length = 8) → rows[i]? = some cs → cs[j]? = some v → rows.flatten[i * 8 + j]? = some v
  | [], _, _, _, _, _, h, _ => by simp at h
  | r :: rs, 0, j, cs, v, hl, h, hj => by
    simp at h; subst h
    rw [List.flatten_cons, List.getElem?_append_left (by simpa using (List.getElem?_eq_some_iff.1 hj).1)]
    simpa using hj
  | r :: rs, i + 1, j, cs, v, hl, h, hj => by
    have h8 := hl r (by simp)
    rw [List.flatten_cons, List.getElem?_append_right (by omega), show (i + 1) * 8 + j - r.length = i * 8 + j by omega]
    exact flatten_get (fun x hx => hl x (by simp [hx])) (by simpa using h) hj
theorem flatten_length : ∀ {rows : List (List Value)}, (∀ r ∈ rows, r.length = 8) → rows.flatten.length = rows.length * 8
  | [], _ => rfl
  | r :: rs, hl => by
    have h8 := hl r (by simp)
    rw [List.flatten_cons, List.length_append, flatten_length fun x hx => hl x (by simp [hx])]
    simp; omega
theorem flatten_set : ∀ {rows : List (List Value)} {i : Nat} {cs : List Value}, (∀ r ∈ rows, r.length = 8) → i < rows.length → cs.length = 8 →
    rows.flatten.take (i * 8) ++ cs ++ rows.flatten.drop (i * 8 + 8) = (rows.set i cs).flatten
  | [], _, _, _, h, _ => by simp at h
  | r :: rs, 0, cs, hl, _, hc => by
    have h8 := hl r (by simp)
    simp [h8]
  | r :: rs, i + 1, cs, hl, h, hc => by
    have h8 := hl r (by simp)
    have ih := flatten_set (rows := rs) (i := i) (cs := cs) (fun x hx => hl x (by simp [hx])) (by simpa using h) hc
    rw [List.set_cons_succ, List.flatten_cons, List.flatten_cons, ← ih]
    rw [List.take_append, List.drop_append, List.take_of_length_le (by omega), List.drop_eq_nil_iff.2 (by omega), show (i + 1) * 8 - r.length = i * 8 by omega, show (i + 1) * 8 + 8 - r.length = i * 8 + 8 by omega]
    simp
theorem flatten_take : ∀ {rows : List (List Value)} {k : Nat}, (∀ r ∈ rows, r.length = 8) → (rows.take k).flatten = rows.flatten.take (k * 8)
  | [], _, _ => by simp
  | r :: rs, 0, _ => by simp
  | r :: rs, k + 1, hl => by
    have h8 := hl r (by simp)
    rw [List.take_succ_cons, List.flatten_cons, List.flatten_cons, flatten_take (rows := rs) (k := k) fun x hx => hl x (by simp [hx]), List.take_append, List.take_of_length_le (l := r) (by omega), show (k + 1) * 8 - r.length = k * 8 by omega]

/-- cells in rows of eight -/
theorem rows_of : ∀ (n : Nat) (l : List Value), l.length = n * 8 → ∃ rows : List (List Value), rows.length = n ∧ (∀ r ∈ rows, r.length = 8) ∧ rows.flatten = l
  | 0, l, h => ⟨[], rfl, by simp, by have : l = [] := List.eq_nil_of_length_eq_zero (by simpa using h); simp [this]⟩
  | n + 1, l, h => by
    obtain ⟨rows, h1, h2, h3⟩ := rows_of n (l.drop 8) (by simp; omega)
    refine ⟨l.take 8 :: rows, by simp [h1], fun r hr => ?_, by simp [h3]⟩
    rcases List.mem_cons.1 hr with rfl | hr
    · simp; omega
    · exact h2 r hr

/-! ### what compaction comes to, one element more -/
theorem dedupFrom_snoc {α : Type} {c : α → α → Int} {y : α} : ∀ (l : List α) (p : α), dedupFrom c p (l ++ [y]) = dedupFrom c p l ++ (if c y ((p :: l).getLast (by simp)) = 0 then [] else [y])
  | [], p => by simp only [List.nil_append, dedupFrom, List.getLast_singleton]; rfl
  | z :: r, p => by
    simp only [List.cons_append, dedupFrom]
    have h := dedupFrom_snoc (c := c) (y := y) r z
    rw [List.getLast_cons (by simp)]
    split
    · rw [h]
    · rw [h]; rfl
theorem dedup_snoc {α : Type} {c : α → α → Int} {y q : α} {l : List α} (hq : l.getLast? = some q) : dedup c (l ++ [y]) = dedup c l ++ (if c y q = 0 then [] else [y]) := by
  cases l with
  | nil => simp at hq
  | cons x r =>
    rw [List.getLast?_eq_some_getLast (by simp)] at hq
    injection hq with hq
    simp only [List.cons_append, dedup, dedupFrom_snoc, hq]
theorem dedup_take_succ {α : Type} {c : α → α → Int} {l : List α} {k : Nat} {x y : α} (hx : l[k]? = some x) (hy : l[k + 1]? = some y) : dedup c (l.take (k + 1 + 1)) = dedup c (l.take (k + 1)) ++ (if c y x = 0 then [] else [y]) := by
  rw [take_succ_of hy, dedup_snoc (q := x)]
  rw [take_succ_of hx]; simp
theorem dedup_apart {α : Type} {c : α → α → Int} {l : List α} : ∀ {k : Nat}, k + 1 ≤ l.length → (∀ i x y, i < k → l[i]? = some x → l[i + 1]? = some y → c y x ≠ 0) → dedup c (l.take (k + 1)) = l.take (k + 1)
  | 0, h, _ => by
    cases l with
    | nil => simp at h
    | cons x r => simp [dedup, dedupFrom]
  | k + 1, h, hall => by
    have hx : l[k]? = some l[k] := List.getElem?_eq_getElem (by omega)
    have hy : l[k + 1]? = some l[k + 1] := List.getElem?_eq_getElem (by omega)
    rw [dedup_take_succ hx hy, dedup_apart (k := k) (by omega) fun i x y hi => hall i x y (by omega), if_neg (hall k _ _ (by omega) hx hy), ← take_succ_of hy]

/-! ### worlds -/
theorem GrownBy.trans {a b c : World} {r : Option Nat} (h : GrownBy a b r) (k : GrownBy b c r) : GrownBy a c r :=
  ⟨⟨k.os.trans h.os, k.tape.trans h.tape, k.output.trans h.output, Nat.le_trans h.size k.size, fun i hi hne => (k.block i (Nat.lt_of_lt_of_le hi h.size) hne).trans (h.block i hi hne)⟩, Nat.le_trans h.drawn k.drawn⟩
theorem GrownBy.of_ext {a b : World} (r : Option Nat) (h : Ext a b) : GrownBy a b r := ⟨⟨h.os, h.tape, h.output, h.size, fun i hi _ => h.block i hi⟩, h.drawn⟩
theorem GrownBy.setRow (w : World) (g : Nat) (cs : Array Value) : GrownBy w (w.setRow g cs) (some g) :=
  ⟨⟨rfl, rfl, rfl, by simp [World.setRow], fun i _ hne => by
    simp only [World.setRow, Array.getElem?_modify]
    rw [if_neg (fun e => hne (by rw [e]))]⟩, Nat.le_refl _⟩
theorem heap_setRow {w : World} {g : Nat} {cur : Array Value} {T : TypeId} (h : w.heap[g]? = some (.cells cur T (0, 0))) (cs : Array Value) : (w.setRow g cs).heap[g]? = some (.cells cs T (0, 0)) := by
  simp [World.setRow, Array.getElem?_modify, h]

/-- a struct stored into a row -/
theorem wpList_store_cells {P : Program} {ops : Array Oper} {rest : List Oper} {op : Oper} {a : Act} {w : World} {Q : Exit → Act → World → Prop} (hgd : op.guard = none) (ty : TypeId) (x y : Operand) (ho : op.op = .store ty x y)
    (g off : Nat) (hx : a.eval x = .pointer (some ⟨g, off, none⟩)) (cs : List Value) (hy : a.eval y = .agg cs.toArray) {n : Nat} (hz : ∀ w, (Go.sizeOf ty).run P w = .ok n w) (hn : cs.length = n)
    (T : TypeId) (cur : Array Value) (hg : w.heap[g]? = some (.cells cur T (0, 0))) (hl : off + cs.length ≤ cur.size) (h1 : ∀ v ∈ cs, v.oneCell' = true)
    (hk : wpList P ops Q rest (a.put op.dst undef) (w.setRow g (cur.toList.take off ++ cs ++ cur.toList.drop (off + cs.length)).toArray)) : wpList P ops Q (op :: rest) a w :=
  wpList_plain hgd fun K hK => by
    have hst := run_storeCells_at (P := P) g off T cs 0 cur w hg (by simpa using hl) h1
    simp only [Nat.add_zero] at hst
    have hst' : (storeVar ty ⟨g, off, none⟩ (.agg cs.toArray)).run P w = .ok () (w.setRow g (cur.toList.take off ++ cs ++ cur.toList.drop (off + cs.length)).toArray) := by
      simp [storeVar, hz, Value.cells, hn, hst]
    unfold Oper.wp execOp
    simp only [ho, hx, hy, Instr.storeAt, Instr.sureAddr, Sem.run_bind, Sem.run_pure, Result.andThen_ok, hst']
    exact hK _ _ hk

/-- in the midst of compaction: the first kk rows are what is kept of so many, the rows from a place on are as they were -/
structure Mid (S : Nat → Prop) (w : World) (g cap : Nat) (T : TypeId) (l : List Val) (n0 kk q : Nat) (wr : World) : Prop where
  grown : GrownBy w wr (some g)
  len : (dedup Val.ord (l.take (n0 + q + 1))).length = kk
  le : kk ≤ n0 + q
  rows : ∃ rows : List (List Value), wr.heap[g]? = some (.cells rows.flatten.toArray T (0, 0)) ∧ rows.length = cap ∧ (∀ r ∈ rows, r.length = 8) ∧
    (∀ (i : Nat) (x : Val), (dedup Val.ord (l.take (n0 + q + 1)))[i]? = some x → ∃ cs, rows[i]? = some cs ∧ Val.At S w x cs) ∧ (∀ (i : Nat) (x : Val), n0 + q ≤ i → l[i]? = some x → ∃ cs, rows[i]? = some cs ∧ Val.At S w x cs)

theorem Mid.ext {S : Nat → Prop} {w wr w' : World} {g cap : Nat} {T : TypeId} {l : List Val} {n0 kk q : Nat} (h : Mid S w g cap T l n0 kk q wr) (k : Ext wr w') : Mid S w g cap T l n0 kk q w' := by
  obtain ⟨rows, h1, h2⟩ := h.rows
  exact ⟨h.grown.trans (GrownBy.of_ext _ k), h.len, h.le, rows, (k.block _ (Blk_lt h1)).trans h1, h2⟩

theorem Mid.alike {S : Nat → Prop} {w wr : World} {g cap : Nat} {T : TypeId} {l : List Val} {n0 kk q : Nat} (h : Mid S w g cap T l n0 kk q wr) (hS : ∀ b, S b → b < w.heap.size) (hg : ¬ S g) : Alike S w wr :=
  fun b hb => h.grown.block b (hS b hb) (fun e => by injection e with e; subst e; exact hg hb)

theorem Mid.old {S : Nat → Prop} {w wr : World} {g cap : Nat} {T : TypeId} {l : List Val} {n0 kk q : Nat} {x y : Val} (h : Mid S w g cap T l n0 kk q wr) (hx : l[n0 + q]? = some x) (hy : l[n0 + q + 1]? = some y) (h0 : y.ord x = 0) :
    Mid S w g cap T l n0 kk (q + 1) wr := by
  have hd : dedup Val.ord (l.take (n0 + q + 1 + 1)) = dedup Val.ord (l.take (n0 + q + 1)) := by rw [dedup_take_succ hx hy, if_pos h0, List.append_nil]
  obtain ⟨rows, h1, h2, h3, h4, h5⟩ := h.rows
  refine ⟨h.grown, ?_, by have := h.le; omega, rows, h1, h2, h3, ?_, fun i z hi => h5 i z (by omega)⟩
  · rw [show n0 + (q + 1) + 1 = n0 + q + 1 + 1 by omega, hd]; exact h.len
  · rw [show n0 + (q + 1) + 1 = n0 + q + 1 + 1 by omega, hd]; exact h4

theorem Mid.new {S : Nat → Prop} {w wr : World} {g cap : Nat} {T : TypeId} {l : List Val} {n0 kk q : Nat} {x y : Val} {cur : Array Value} {cs : List Value} (h : Mid S w g cap T l n0 kk q wr) (hx : l[n0 + q]? = some x) (hy : l[n0 + q + 1]? = some y) (h0 : y.ord x ≠ 0)
    (hcur : wr.heap[g]? = some (.cells cur T (0, 0))) (hcs : Val.At S w y cs) (hcap : l.length ≤ cap) :
    Mid S w g cap T l n0 (kk + 1) (q + 1) (wr.setRow g (cur.toList.take (kk * 8) ++ cs ++ cur.toList.drop (kk * 8 + cs.length)).toArray) := by
  have hd : dedup Val.ord (l.take (n0 + q + 1 + 1)) = dedup Val.ord (l.take (n0 + q + 1)) ++ [y] := by rw [dedup_take_succ hx hy, if_neg h0]
  obtain ⟨rows, h1, h2, h3, h4, h5⟩ := h.rows
  rw [h1] at hcur
  injection hcur with hcur
  injection hcur with hcur
  subst hcur
  have hle := h.le
  have hyl : n0 + q + 1 < l.length := (List.getElem?_eq_some_iff.1 hy).1
  have h8 := hcs.length
  have hk : kk < rows.length := by omega
  have hset : (rows.flatten.toArray.toList.take (kk * 8) ++ cs ++ rows.flatten.toArray.toList.drop (kk * 8 + cs.length)) = (rows.set kk cs).flatten := by
    rw [h8]; simpa using flatten_set h3 hk h8
  rw [hset]
  refine ⟨h.grown.trans (GrownBy.setRow _ _ _), ?_, by omega, rows.set kk cs, heap_setRow h1 _, by simpa using h2, fun r hr => ?_, fun i z hi => ?_, fun i z hi hz => ?_⟩
  · rw [show n0 + (q + 1) + 1 = n0 + q + 1 + 1 by omega, hd, List.length_append, h.len]; rfl
  · rcases List.mem_or_eq_of_mem_set hr with hr | rfl
    · exact h3 r hr
    · exact h8
  · rw [show n0 + (q + 1) + 1 = n0 + q + 1 + 1 by omega, hd] at hi
    by_cases hik : i < kk
    · rw [List.getElem?_append_left (by rw [h.len]; exact hik)] at hi
      obtain ⟨c, hc, hat⟩ := h4 i z hi
      exact ⟨c, by rw [List.getElem?_set_ne (by omega)]; exact hc, hat⟩
    · rw [List.getElem?_append_right (by rw [h.len]; omega), h.len] at hi
      have : i = kk := by
        have := (List.getElem?_eq_some_iff.1 hi).1
        simp at this; omega
      subst this
      simp at hi; subst hi
      exact ⟨cs, by rw [List.getElem?_set_self hk], hcs⟩
  · obtain ⟨c, hc, hat⟩ := h5 i z (by omega) hz
    exact ⟨c, by rw [List.getElem?_set_ne (by omega)]; exact hc, hat⟩

/-- what is kept is a row of its own -/
theorem Mid.finish {S : Nat → Prop} {w wr w' : World} {base g cap : Nat} {T : TypeId} {l : List Val} {n0 kk q : Nat} (h : Mid S w g cap T l n0 kk q wr) (hq : n0 + q + 1 = l.length) (hg : base ≤ g) (hcap : l.length ≤ cap) (hcm : cap ≤ maxLen)
    (hgl : g < w.heap.size) (hS : ∀ b, S b → base ≤ b ∧ b < w.heap.size ∧ b ≠ g) (zs : List Value) (hz : zs.length = (l.length - kk) * 8) {cur : Array Value} (hcur : wr.heap[g]? = some (.cells cur T (0, 0)))
    (hw : w' = wr.setRow g (cur.toList.take (kk * 8) ++ zs ++ cur.toList.drop (kk * 8 + zs.length)).toArray) :
    ∃ xs', w'.ownsRow base T 8 (.slice (some ⟨g, 0, none⟩) kk cap) (dedup Val.ord l).length xs' ∧ Flat (Made base w' (.slice (some ⟨g, 0, none⟩) kk cap)) w' (dedup Val.ord l) xs' ∧ Below base w w' ∧ w.drawn ≤ w'.drawn := by
  have hgr := h.grown
  obtain ⟨rows, h1, h2, h3, h4, h5⟩ := h.rows
  have hlen := h.len
  have hle := h.le
  rw [hq, List.take_length] at hlen h4
  rw [h1] at hcur
  injection hcur with hcur
  injection hcur with hcur
  subst hcur
  have hgr' : GrownBy w w' (some g) := by rw [hw]; exact hgr.trans (GrownBy.setRow _ _ _)
  have hh := heap_setRow h1 (rows.flatten.toArray.toList.take (kk * 8) ++ zs ++ rows.flatten.toArray.toList.drop (kk * 8 + zs.length)).toArray
  rw [← hw] at hh
  have hfl := flatten_length h3
  refine ⟨rows.flatten.take (kk * 8), ⟨by rw [List.length_take, hfl, hlen]; omega, .inr ⟨g, cap, _, by rw [hlen], hg, hh, by omega, hcm, ?_, ?_⟩⟩, ?_, ⟨hgr'.os, hgr'.tape, hgr'.output, hgr'.size, fun b hb => hgr'.block b ?_ ?_⟩, hgr'.drawn⟩
  · simp only [List.size_toArray, List.length_append, List.length_take, List.length_drop, hfl, hz]; omega
  · rw [hlen]
    dsimp only
    rw [List.append_assoc, List.take_append_of_le_length (by rw [List.length_take, hfl]; omega), List.take_of_length_le (by rw [List.length_take, hfl]; omega)]
  · rw [← flatten_take h3]
    have hal : Alike S w w' := fun b hb => hgr'.block b (hS b hb).2.1 (fun e => by injection e with e; exact (hS b hb).2.2 e)
    have key : ∀ (d : List Val) (rs : List (List Value)), rs.length = d.length → (∀ (i : Nat) (x : Val), d[i]? = some x → ∃ cs, rs[i]? = some cs ∧ Val.At S w x cs) → Flat S w' d rs.flatten := by
      intro d
      induction d with
      | nil => intro rs hr _; have : rs = [] := List.eq_nil_of_length_eq_zero hr; subst this; rfl
      | cons x r ih =>
        intro rs hr hd
        cases rs with
        | nil => simp at hr
        | cons c cs =>
          obtain ⟨c', hc', hat⟩ := hd 0 x rfl
          simp at hc'; subst hc'
          exact ⟨c, cs.flatten, by simp, hat.alike hal, ih cs (by simpa using hr) fun i y hy => by simpa using hd (i + 1) y (by simpa using hy)⟩
    refine (key (dedup Val.ord l) (rows.take kk) (by rw [List.length_take, hlen]; omega) fun i x hi => ?_).mono fun b hb => ⟨(hS b hb).1, Nat.lt_of_lt_of_le (hS b hb).2.1 hgr'.size, fun e => (hS b hb).2.2 (by injection e with e; exact e.symm)⟩
    have hik : i < kk := by rw [← hlen]; exact (List.getElem?_eq_some_iff.1 hi).1
    rw [List.getElem?_take, if_pos hik]
    exact h4 i x hi
  · omega
  · intro e; injection e with e; omega

/-- cells made zero -/
theorem wpList_clear_cells {P : Program} {ops : Array Oper} {rest : List Oper} {op : Oper} {a : Act} {w : World} {Q : Exit → Act → World → Prop} (hgd : op.guard = none) (x : Operand) (t e : TypeId)
    (ho : op.op = .call { callee := .builtin .clear, args := #[x], argTypes := #[t] }) (ht : P.underlying t = some (.slice e)) (z : List Value) (hv : ∀ w, (zeroValue e).run P w = .ok (.agg z.toArray) w) (h1 : ∀ v ∈ z, v.oneCell' = true)
    (g off n c : Nat) (hx : a.eval x = .slice (some ⟨g, off, none⟩) n c) (hn : 0 < n) (T : TypeId) (cur : Array Value) (hg : w.heap[g]? = some (.cells cur T (0, 0))) (hl : off + n * z.length ≤ cur.size)
    (hk : ∀ zs : List Value, zs.length = n * z.length → wpList P ops Q rest (a.put op.dst (.tuple #[])) (w.setRow g (cur.toList.take off ++ zs ++ cur.toList.drop (off + zs.length)).toArray)) : wpList P ops Q (op :: rest) a w :=
  wpList_plain hgd fun K hK => by
    have hzl : (Builtin.zeroCells z.toArray n).toList.length = n * z.length := by simp [Builtin.zeroCells]
    have hz1 : ∀ v ∈ (Builtin.zeroCells z.toArray n).toList, v.oneCell' = true := by
      intro v hv'
      simp only [Builtin.zeroCells, Array.toList_map, List.mem_map] at hv'
      obtain ⟨i, hi, rfl⟩ := hv'
      simp at hi
      have hzp : 0 < z.length := by
        rcases Nat.eq_zero_or_pos z.length with h0 | h0
        · rw [h0] at hi; omega
        · exact h0
      have hm : i % z.toArray.size < z.toArray.size := Nat.mod_lt _ (by simpa using hzp)
      rw [getElem!_pos z.toArray (i % z.toArray.size) hm]
      exact h1 _ (by simp)
    have hst := run_storeCells_at (P := P) g off T (Builtin.zeroCells z.toArray n).toList 0 cur w hg (by rw [hzl]; simpa using hl) hz1
    simp only [Nat.add_zero] at hst
    obtain ⟨m, rfl⟩ : ∃ m, n = m + 1 := ⟨n - 1, by omega⟩
    have hrun : (Builtin.clear_ #[t] op.type #[.slice (some ⟨g, off, none⟩) (m + 1) c]).run P w = .ok (.tuple #[]) (w.setRow g (cur.toList.take off ++ (Builtin.zeroCells z.toArray (m + 1)).toList ++ cur.toList.drop (off + (Builtin.zeroCells z.toArray (m + 1)).toList.length)).toArray) := by
      simp [Builtin.clear_, run_underlying ht, hv, Value.cells, hst]
    unfold Oper.wp execOp
    simp only [ho, resolve, invoke, builtin, Sem.run_bind, Sem.run_pure, Result.andThen_ok, List.map_toArray, List.map_cons, List.map_nil, hx, hrun]
    exact hK _ _ (hk _ hzl)

theorem zero_one : ∀ v ∈ zeroCells, v.oneCell' = true := by decide
theorem Try.zero27 : ∀ w, (zeroValue 27).run Try.prog w = .ok (.agg zeroCells.toArray) w := fun _ => by kernel_rfl

set_option maxRecDepth 100000 in
set_option maxHeartbeats 1600000 in
theorem compactV_ok (base : Nat) (w : World) (v : Value) (l : List Val) (xs : List Value) (hown : w.ownsRow base 27 8 v l.length xs) (hf : Flat (Made base w v) w l xs) (hl : l.length ≤ LIM) :
    Calls Try.prog 77 #[v, .func (.func 26) #[] #[]] w fun e w' =>
      ∃ v', e = .returned v' ∧ ∃ xs', w'.ownsRow base 27 8 v' (dedup Val.ord l).length xs' ∧ Flat (Made base w' v') w' (dedup Val.ord l) xs' ∧ Below base w w' ∧ w.drawn ≤ w'.drawn := by
  obtain ⟨hx, hv⟩ := id hown
  have hS0 : ∃ S : Nat → Prop, (∀ b, S b → base ≤ b ∧ b < w.heap.size ∧ v.ownBlock ≠ some b) ∧ Flat S w l xs := ⟨_, fun b hb => hb, hf⟩
  obtain ⟨S, hSm, hfS⟩ := hS0
  rw [LIM_eq] at hl
  have HF := Lib.hid hf
  have HOwn := Lib.hid hown
  by_cases h2 : l.length < 2
  · have hd : dedup Val.ord l = l := by
      match l, h2 with
      | [], _ => rfl
      | [x], _ => rfl
    rw [hd]
    obtain ⟨A, cap, rfl⟩ : ∃ A cap, v = .slice A l.length cap := by
      rcases hv with ⟨rfl, hn⟩ | ⟨g, cap, cur, rfl, _⟩
      · exact ⟨none, 0, by rw [hn]⟩
      · exact ⟨_, _, rfl⟩
    clear hf hown hfS hSm hv hx hd
    go_enter Try.func77, Try.ntmps77
    go_wp2_with fail
    go_ret
    exact ⟨_, rfl, xs, HOwn.out, HF.out, Below.refl _ _, Nat.le_refl _⟩
  rcases hv with ⟨rfl, hn⟩ | ⟨g, cap, cur, rfl, hg, hh, hnc, hcm, hcur, htake⟩
  · omega
  obtain ⟨rows, hr1, hr2, hr3⟩ := rows_of cap cur.toList (by simpa using hcur)
  have hcurr : cur = rows.flatten.toArray := by rw [hr3]
  subst hcurr
  -- each element has its row
  have hrow : ∀ i x, l[i]? = some x → ∃ cs, rows[i]? = some cs ∧ Val.At S w x cs := fun i x hix => by
    obtain ⟨cs, c1, c2, c3⟩ := hfS.get hix
    have hil : i < l.length := (List.getElem?_eq_some_iff.1 hix).1
    have hir : i < rows.length := by omega
    refine ⟨rows[i], List.getElem?_eq_getElem hir, ?_⟩
    have hrl := hr2 rows[i] (List.getElem_mem hir)
    have : rows[i] = cs := by
      apply List.ext_getElem?
      intro j
      by_cases hj : j < 8
      · have e1 := flatten_get (rows := rows) (i := i) (j := j) hr2 (List.getElem?_eq_getElem hir) (List.getElem?_eq_getElem (by omega))
        have e2 := c3 j cs[j] (List.getElem?_eq_getElem (by omega))
        rw [← htake, List.getElem?_take, if_pos (by omega)] at e2
        dsimp only at e2
        rw [e1] at e2
        rw [List.getElem?_eq_getElem (by omega), List.getElem?_eq_getElem (by omega)]
        exact e2
      · rw [List.getElem?_eq_none (by omega), List.getElem?_eq_none (by omega)]
    rw [this]; exact c2
  have hSg : ∀ b, S b → b < w.heap.size := fun b hb => (hSm b hb).2.1
  have hgl := Blk_lt hh
  rw [maxLen_eq] at hcm
  have HR := Lib.hid hrow
  have HS := Lib.hid hSg
  have HSm := Lib.hid hSm
  have Hh := Lib.hid hh
  have H8 := Lib.hid hr2
  have Hr1 := Lib.hid hr1
  have Hgl := Lib.hid hgl
  clear hf hown hfS hSm hx hrow hSg hh hr2 hcur htake hr3 hr1 hgl
  have hn2 : 2 ≤ l.length := by omega
  clear h2
  go_enter Try.func77, Try.ntmps77
  go_wp2_with fail
  go_loopw [5] (fun i wr => ∃ k : Nat, k + 1 ≤ l.length ∧ i = .int .i64 ((k + 1 : Nat) : Int) ∧ Ext w wr ∧ Hid (∀ i x y, i < k → l[i]? = some x → l[i + 1]? = some y → y.ord x ≠ 0)) (fun i _ => l.length - (intOf i).toNat)
  case atStart => exact ⟨0, by omega, rfl, Ext.refl w, fun _ _ _ h => by omega⟩
  case round =>
    obtain ⟨k, hk, rfl, hext, Hall⟩ := hrel
    have HX := Lib.hid hext
    clear hext
    have ek : ((k + 1 : Nat) : Int) = (k : Int) + 1 := by omega
    rw [ek]
    clear ek
    by_cases hlt : k + 1 < l.length
    · obtain ⟨x, hx⟩ : ∃ x, l[k]? = some x := ⟨_, List.getElem?_eq_getElem (by omega)⟩
      obtain ⟨y, hy⟩ : ∃ y, l[k + 1]? = some y := ⟨_, List.getElem?_eq_getElem hlt⟩
      obtain ⟨cx, hcx, hxa⟩ := HR.out k x hx
      obtain ⟨cy, hcy, hya⟩ := HR.out (k + 1) y hy
      have hxa' := hxa.alike (Alike.of_ext HX.out HS.out)
      have hya' := hya.alike (Alike.of_ext HX.out HS.out)
      obtain ⟨k1, b1, n1, t1, ut1, ui1, A1, l1, c1, A3, l3, c3, rfl⟩ := hxa.shape
      obtain ⟨k2, b2, n2, t2, ut2, ui2, A4, l4, c4, A5, l5, c5, rfl⟩ := hya.shape
      have hcax : CellsAt wr g (k * 8) [.int .i64 k1, .bool b1, .int .i64 n1, .string t1, .string ut1, .string ui1, .slice A1 l1 c1, .slice A3 l3 c3] := fun j u hj => by
        rw [cell_of_row _ _ _ _ _ _ ((HX.out.block _ Hgl.out).trans Hh.out)]
        simpa using flatten_get H8.out hcx hj
      have hcay : CellsAt wr g ((k + 1) * 8) [.int .i64 k2, .bool b2, .int .i64 n2, .string t2, .string ut2, .string ui2, .slice A4 l4 c4, .slice A5 l5 c5] := fun j u hj => by
        rw [cell_of_row _ _ _ _ _ _ ((HX.out.block _ Hgl.out).trans Hh.out)]
        simpa using flatten_get H8.out hcy hj
      have Hx := Lib.hid hx
      have Hy := Lib.hid hy
      have Hxa := Lib.hid hxa'
      have Hya := Lib.hid hya'
      have HSr := Lib.hid (show ∀ b, S b → b < wr.heap.size from fun b hb => Nat.lt_of_lt_of_le (HS.out b hb) HX.out.size)
      have f0 := cell_regrown (show wr.cell? ⟨g, k * 8, none⟩ = some (.int .i64 k1) by simpa using hcax 0 _ rfl)
      have f1 := cell_regrown (show wr.cell? ⟨g, k * 8 + 1, none⟩ = some (.bool b1) by simpa using hcax 1 _ rfl)
      have f2 := cell_regrown (show wr.cell? ⟨g, k * 8 + 2, none⟩ = some (.int .i64 n1) by simpa using hcax 2 _ rfl)
      have f3 := cell_regrown (show wr.cell? ⟨g, k * 8 + 3, none⟩ = some (.string t1) by simpa using hcax 3 _ rfl)
      have f4 := cell_regrown (show wr.cell? ⟨g, k * 8 + 4, none⟩ = some (.string ut1) by simpa using hcax 4 _ rfl)
      have f5 := cell_regrown (show wr.cell? ⟨g, k * 8 + 5, none⟩ = some (.string ui1) by simpa using hcax 5 _ rfl)
      have f6 := cell_regrown (show wr.cell? ⟨g, k * 8 + 6, none⟩ = some (.slice A1 l1 c1) by simpa using hcax 6 _ rfl)
      have f7 := cell_regrown (show wr.cell? ⟨g, k * 8 + 7, none⟩ = some (.slice A3 l3 c3) by simpa using hcax 7 _ rfl)
      have h0 := cell_regrown (show wr.cell? ⟨g, (k + 1) * 8, none⟩ = some (.int .i64 k2) by simpa using hcay 0 _ rfl)
      have h1 := cell_regrown (show wr.cell? ⟨g, (k + 1) * 8 + 1, none⟩ = some (.bool b2) by simpa using hcay 1 _ rfl)
      have h2 := cell_regrown (show wr.cell? ⟨g, (k + 1) * 8 + 2, none⟩ = some (.int .i64 n2) by simpa using hcay 2 _ rfl)
      have h3 := cell_regrown (show wr.cell? ⟨g, (k + 1) * 8 + 3, none⟩ = some (.string t2) by simpa using hcay 3 _ rfl)
      have h4 := cell_regrown (show wr.cell? ⟨g, (k + 1) * 8 + 4, none⟩ = some (.string ut2) by simpa using hcay 4 _ rfl)
      have h5 := cell_regrown (show wr.cell? ⟨g, (k + 1) * 8 + 5, none⟩ = some (.string ui2) by simpa using hcay 5 _ rfl)
      have h6 := cell_regrown (show wr.cell? ⟨g, (k + 1) * 8 + 6, none⟩ = some (.slice A4 l4 c4) by simpa using hcay 6 _ rfl)
      have h7 := cell_regrown (show wr.cell? ⟨g, (k + 1) * 8 + 7, none⟩ = some (.slice A5 l5 c5) by simpa using hcay 7 _ rfl)
      clear hx hy hcx hcy hxa hya hxa' hya' hcax hcay
      have q1 : (0 : Int) ≤ (k : Int) + 1 := by omega
      have q2 : (k : Int) + 1 < l.length := by omega
      have q3 : ((k : Int) + 1).toNat = k + 1 := by omega
      have q4 : IntKind.i64.wrap ((k : Int) + 1 - 1) = (k : Int) := by rw [show (k : Int) + 1 - 1 = k by omega]; exact IntWalk.i64_in _ (by omega)
      have q5 : IntKind.i64.wrap (k : Int) = (k : Int) := IntWalk.i64_in _ (by omega)
      have q6 : (k : Int) < l.length := by omega
      have q7 : (0 : Int) ≤ (k : Int) := by omega
      have q8 : k < l.length := by omega
      go_wp2_with fail
      refine region_later (by kernel_rfl) (by kernel_rfl) ?_
      repeat (quiet_step ((go_at_call 26; exact later_call (fun w1 hw1 => same_ok y x S w1 [_, _, _, _, _, _, _, _] [_, _, _, _, _, _, _, _] (fun b hb => Nat.lt_of_lt_of_le (HSr.out b hb) hw1.size) (Hya.out.alike (Alike.of_ext hw1 HSr.out)) (Hxa.out.alike (Alike.of_ext hw1 HSr.out))) _ _)))
      refine wpQuiet_nil ?_
      intro w2 hw2
      have HX2 := Lib.hid hw2
      clear hw2 f0 f1 f2 f3 f4 f5 f6 f7 h0 h1 h2 h3 h4 h5 h6 h7 q1 q2 q3 q4 q5 q6 q7
      by_cases he : y.ord x = 0
      · have e0 : (y.ord x == 0) = true := by simpa using he
        have He := Lib.hid he
        clear he
        have hmid0 : Mid S w g cap 27 l (k + 1) (k + 1) 0 w2 := by
          have hd : dedup Val.ord (l.take (k + 1 + 0 + 1)) = l.take (k + 1) := by
            rw [Nat.add_zero, dedup_take_succ Hx.out Hy.out, if_pos He.out, List.append_nil, dedup_apart (by omega) Hall.out]
          have hx2 := HX.out.trans HX2.out
          refine ⟨GrownBy.of_ext _ hx2, by rw [hd, List.length_take]; omega, by omega, rows, (hx2.block _ Hgl.out).trans Hh.out, Hr1.out, H8.out, fun i z hi => ?_, fun i z _ hz => HR.out i z hz⟩
          rw [hd, List.getElem?_take] at hi
          split at hi
          · exact HR.out i z hi
          · cases hi
        have HM0 := Lib.hid hmid0
        clear hmid0 Hall Hx Hy Hxa Hya HSr HX2 HX He
        rw [e0]
        clear e0
        go_wp2_with fail
        go_loopw [5, 7] (fun u i wr => ∃ (kk q : Nat), k + 1 + q + 1 ≤ l.length ∧ kk ≤ k + 1 + q ∧ u = .int .i64 kk ∧ i = .int .i64 ((q + 1 : Nat) : Int) ∧ Hid (Mid S w g cap 27 l (k + 1) kk q wr)) (fun _ i _ => l.length - (intOf i).toNat)
        case atStart => exact ⟨k + 1, 0, by omega, by omega, by go_num, rfl, HM0.out⟩
        case round =>
          clear HM0
          obtain ⟨kk, q, hq, hkq, rfl, rfl, HM⟩ := hrel
          have ek : ((q + 1 : Nat) : Int) = (q : Int) + 1 := by omega
          rw [ek]
          clear ek
          have elen : ((l.length - (k + 1) : Nat) : Int) = (l.length : Int) - (k + 1) := by omega
          by_cases hql : k + 1 + q + 1 < l.length
          · obtain ⟨x, hx⟩ : ∃ x, l[k + 1 + q]? = some x := ⟨_, List.getElem?_eq_getElem (by omega)⟩
            obtain ⟨y, hy⟩ : ∃ y, l[k + 1 + q + 1]? = some y := ⟨_, List.getElem?_eq_getElem hql⟩
            obtain ⟨rows', m1, m2, m3, m4, m5⟩ := HM.out.rows
            have hal := HM.out.alike HS.out (fun h => (HSm.out g h).2.2 rfl)
            obtain ⟨cx, hcx, hxa⟩ := m5 _ x (by omega) hx
            obtain ⟨cy, hcy, hya⟩ := m5 _ y (by omega) hy
            have hxa' := hxa.alike hal
            have hya' := hya.alike hal
            obtain ⟨k5, b5, n5, t5, ut5, ui5, A6, l6, c6, A7, l7, c7, rfl⟩ := hxa.shape
            obtain ⟨k6, b6, n6, t6, ut6, ui6, A8, l8, c8, A9, l9, c9, rfl⟩ := hya.shape
            have hcax : CellsAt wr g ((k + 1) * 8 + q * 8) [.int .i64 k5, .bool b5, .int .i64 n5, .string t5, .string ut5, .string ui5, .slice A6 l6 c6, .slice A7 l7 c7] := fun j u hj => by
              rw [cell_of_row _ _ _ _ _ _ m1, show (k + 1) * 8 + q * 8 + j = (k + 1 + q) * 8 + j by omega]
              simpa using flatten_get m3 hcx hj
            have hcay : CellsAt wr g ((k + 1) * 8 + (q + 1) * 8) [.int .i64 k6, .bool b6, .int .i64 n6, .string t6, .string ut6, .string ui6, .slice A8 l8 c8, .slice A9 l9 c9] := fun j u hj => by
              rw [cell_of_row _ _ _ _ _ _ m1, show (k + 1) * 8 + (q + 1) * 8 + j = (k + 1 + q + 1) * 8 + j by omega]
              simpa using flatten_get m3 hcy hj
            have HSr := Lib.hid (show ∀ b, S b → b < wr.heap.size from fun b hb => Nat.lt_of_lt_of_le (HS.out b hb) HM.out.grown.size)
            have Hm1 := Lib.hid m1
            have Hsz : cap * 8 = rows'.flatten.toArray.size := by have := flatten_length m3; simp only [List.size_toArray]; omega
            have HSz := Lib.hid Hsz
            have Hx := Lib.hid hx
            have Hy := Lib.hid hy
            have Hxa := Lib.hid hxa'
            have Hya := Lib.hid hya'
            have Hya0 := Lib.hid hya
            have Hcy := Lib.hid hcay
            have f0 := cell_regrown (show wr.cell? ⟨g, (k + 1) * 8 + q * 8, none⟩ = some (.int .i64 k5) by simpa using hcax 0 _ rfl)
            have f1 := cell_regrown (show wr.cell? ⟨g, (k + 1) * 8 + q * 8 + 1, none⟩ = some (.bool b5) by simpa using hcax 1 _ rfl)
            have f2 := cell_regrown (show wr.cell? ⟨g, (k + 1) * 8 + q * 8 + 2, none⟩ = some (.int .i64 n5) by simpa using hcax 2 _ rfl)
            have f3 := cell_regrown (show wr.cell? ⟨g, (k + 1) * 8 + q * 8 + 3, none⟩ = some (.string t5) by simpa using hcax 3 _ rfl)
            have f4 := cell_regrown (show wr.cell? ⟨g, (k + 1) * 8 + q * 8 + 4, none⟩ = some (.string ut5) by simpa using hcax 4 _ rfl)
            have f5 := cell_regrown (show wr.cell? ⟨g, (k + 1) * 8 + q * 8 + 5, none⟩ = some (.string ui5) by simpa using hcax 5 _ rfl)
            have f6 := cell_regrown (show wr.cell? ⟨g, (k + 1) * 8 + q * 8 + 6, none⟩ = some (.slice A6 l6 c6) by simpa using hcax 6 _ rfl)
            have f7 := cell_regrown (show wr.cell? ⟨g, (k + 1) * 8 + q * 8 + 7, none⟩ = some (.slice A7 l7 c7) by simpa using hcax 7 _ rfl)
            have h0 := cell_regrown (show wr.cell? ⟨g, (k + 1) * 8 + (q + 1) * 8, none⟩ = some (.int .i64 k6) by simpa using hcay 0 _ rfl)
            have h1 := cell_regrown (show wr.cell? ⟨g, (k + 1) * 8 + (q + 1) * 8 + 1, none⟩ = some (.bool b6) by simpa using hcay 1 _ rfl)
            have h2 := cell_regrown (show wr.cell? ⟨g, (k + 1) * 8 + (q + 1) * 8 + 2, none⟩ = some (.int .i64 n6) by simpa using hcay 2 _ rfl)
            have h3 := cell_regrown (show wr.cell? ⟨g, (k + 1) * 8 + (q + 1) * 8 + 3, none⟩ = some (.string t6) by simpa using hcay 3 _ rfl)
            have h4 := cell_regrown (show wr.cell? ⟨g, (k + 1) * 8 + (q + 1) * 8 + 4, none⟩ = some (.string ut6) by simpa using hcay 4 _ rfl)
            have h5 := cell_regrown (show wr.cell? ⟨g, (k + 1) * 8 + (q + 1) * 8 + 5, none⟩ = some (.string ui6) by simpa using hcay 5 _ rfl)
            have h6 := cell_regrown (show wr.cell? ⟨g, (k + 1) * 8 + (q + 1) * 8 + 6, none⟩ = some (.slice A8 l8 c8) by simpa using hcay 6 _ rfl)
            have h7 := cell_regrown (show wr.cell? ⟨g, (k + 1) * 8 + (q + 1) * 8 + 7, none⟩ = some (.slice A9 l9 c9) by simpa using hcay 7 _ rfl)
            clear hx hy hcx hcy hxa hya hxa' hya' hcax hcay m1 m2 m3 m4 m5 hal Hsz
            have q1 : (0 : Int) ≤ (q : Int) + 1 := by omega
            have q2 : (q : Int) + 1 < ((l.length - (k + 1) : Nat) : Int) := by omega
            have q3 : ((q : Int) + 1).toNat = q + 1 := by omega
            have q4 : IntKind.i64.wrap ((q : Int) + 1 - 1) = (q : Int) := by rw [show (q : Int) + 1 - 1 = q by omega]; exact IntWalk.i64_in _ (by omega)
            have q5 : IntKind.i64.wrap (q : Int) = (q : Int) := IntWalk.i64_in _ (by omega)
            have q6 : (q : Int) < ((l.length - (k + 1) : Nat) : Int) := by omega
            have q7 : (0 : Int) ≤ (q : Int) := by omega
            have q8 : q < l.length - (k + 1) := by omega
            have q9 : q + 1 < l.length - (k + 1) := by omega
            clear elen
            go_wp2_with fail
            refine region_later (by kernel_rfl) (by kernel_rfl) ?_
            repeat (quiet_step ((go_at_call 26; exact later_call (fun w1 hw1 => same_ok y x S w1 [_, _, _, _, _, _, _, _] [_, _, _, _, _, _, _, _] (fun b hb => Nat.lt_of_lt_of_le (HSr.out b hb) hw1.size) (Hya.out.alike (Alike.of_ext hw1 HSr.out)) (Hxa.out.alike (Alike.of_ext hw1 HSr.out))) _ _)))
            refine wpQuiet_nil ?_
            intro w3 hw3
            have HX3 := Lib.hid hw3
            clear hw3 f0 f1 f2 f3 f4 f5 f6 f7 h0 h1 h2 h3 h4 h5 h6 h7 q1 q2 q3 q4 q5 q6 q7
            have Hm3 := Lib.hid ((HX3.out.block _ (Blk_lt Hm1.out)).trans Hm1.out)
            by_cases he : y.ord x = 0
            · have e0 : (y.ord x == 0) = true := by simpa using he
              have He := Lib.hid he
              clear he
              rw [e0]
              clear e0
              go_wp2_with fail
              have hfin : ∃ (kk' q' : Nat), k + 1 + q' + 1 ≤ l.length ∧ kk' ≤ k + 1 + q' ∧ Value.int .i64 (kk : Int) = .int .i64 (kk' : Int) ∧ Value.int .i64 ((q : Int) + 1 + 1) = .int .i64 ((q' + 1 : Nat) : Int) ∧ Hid (Mid S w g cap 27 l (k + 1) kk' q' w3) :=
                ⟨kk, q + 1, by omega, by omega, rfl, by go_num, (HM.out.old Hx.out Hy.out He.out).ext HX3.out⟩
              go_roundw
              case rel => exact hfin
              case measure => simp [intOf]; omega
            · have e0 : (y.ord x == 0) = false := by simpa using he
              have He := Lib.hid he
              clear he
              rw [e0]
              clear e0
              have hkl : kk < l.length := by omega
              have hkl' : (kk : Int) < l.length := by omega
              go_wp2_with (first | refine wpList_load_cells rfl 27 _ rfl g ((k + 1) * 8 + (q + 1) * 8) rfl Try.agg27 Try.size27 rfl (Hcy.out.alike (S := fun b => b < wr.heap.size) (Blk_lt Hm1.out) (Alike.of_ext HX3.out fun _ h => h)) ?_ | refine wpList_store_cells rfl 27 _ _ rfl g (kk * 8) rfl [.int .i64 k6, .bool b6, .int .i64 n6, .string t6, .string ut6, .string ui6, .slice A8 l8 c8, .slice A9 l9 c9] rfl Try.size27 rfl 27 rows'.flatten.toArray Hm3.out (by have := HSz.out; simp only [List.length_cons, List.length_nil]; omega) Hya0.out.one ?_)
              have hfin : ∃ (kk' q' : Nat), k + 1 + q' + 1 ≤ l.length ∧ kk' ≤ k + 1 + q' ∧ Value.int .i64 ((kk : Int) + 1) = .int .i64 (kk' : Int) ∧ Value.int .i64 ((q : Int) + 1 + 1) = .int .i64 ((q' + 1 : Nat) : Int) ∧ Hid (Mid S w g cap 27 l (k + 1) kk' q' (w3.setRow g (rows'.flatten.toArray.toList.take (kk * 8) ++ ([.int .i64 k6, .bool b6, .int .i64 n6, .string t6, .string ut6, .string ui6, .slice A8 l8 c8, .slice A9 l9 c9] : List Value) ++ rows'.flatten.toArray.toList.drop (kk * 8 + 8)).toArray)) :=
                ⟨kk + 1, q + 1, by omega, by omega, by go_num, by go_num, (HM.out.ext HX3.out).new Hx.out Hy.out He.out Hm3.out Hya0.out (by omega)⟩
              go_roundw
              case rel =>
                simp only [List.append_assoc, List.cons_append, List.nil_append] at hfin
                exact hfin
              case measure => simp [intOf]; omega
          · have hkl : kk < l.length := by omega
            have hkl' : (kk : Int) < l.length := by omega
            have hkc : kk < cap := by omega
            have hqe : k + 1 + q + 1 = l.length := by omega
            have q2 : ¬ (q : Int) + 1 < ((l.length - (k + 1) : Nat) : Int) := by omega
            have HQ := Lib.hid hqe
            obtain ⟨rows', m1, m2, m3, _, _⟩ := HM.out.rows
            have Hsz : cap * 8 = rows'.flatten.toArray.size := by have := flatten_length m3; simp only [List.size_toArray]; omega
            have HSz := Lib.hid Hsz
            have Hm1 := Lib.hid m1
            clear m1 m2 m3 Hsz hqe elen
            go_wp2_with (refine wpList_clear_cells rfl (.tmp 61) 24 27 rfl Try.underlying24 zeroCells Try.zero27 zero_one g (kk * 8) (l.length - kk) (cap - kk) rfl (by omega) 27 rows'.flatten.toArray Hm1.out (by have := HSz.out; simp only [zeroCells, List.length_cons, List.length_nil]; omega) ?_)
            intro zs hzs
            have HZ := Lib.hid hzs
            clear hzs
            go_wp2_with fail
            go_ret
            obtain ⟨xs', o1, o2, o3, o4⟩ := HM.out.finish (by rw [HQ.out]) hg (by omega) (by rw [maxLen_eq]; exact hcm) Hgl.out (fun b hb => ⟨(HSm.out b hb).1, (HSm.out b hb).2.1, fun e => (HSm.out b hb).2.2 (by rw [e]; rfl)⟩) zs (by rw [HZ.out]; rfl) Hm1.out rfl
            simp only [List.append_assoc] at o1 o2 o3 o4
            exact ⟨_, rfl, xs', o1, o2, o3, o4⟩
      · have e0 : (y.ord x == 0) = false := by simpa using he
        have He := Lib.hid he
        clear he
        go_wp2_with fail
        go_roundw
        case rel => exact ⟨k + 1, by omega, by go_num, HX.out.trans HX2.out, fun i a b hi ha hb => by
          by_cases hik : i = k
          · subst hik; rw [Hx.out] at ha; rw [Hy.out] at hb; cases ha; cases hb; exact He.out
          · exact Hall.out i a b (by omega) ha hb⟩
        case measure => simp [intOf]; omega
    · have hke : k + 1 = l.length := by omega
      have hd : dedup Val.ord l = l := by
        have := dedup_apart (l := l) (c := Val.ord) (k := k) (by omega) Hall.out
        rwa [hke, List.take_length] at this
      have HD := Lib.hid hd
      clear hke hd
      go_wp2_with fail
      go_ret
      rw [HD.out]
      refine ⟨_, rfl, xs, ownsRow_ext HOwn.out HX.out, ?_, HX.out.toBelow.mono (by have := hg; have := Hgl.out; omega), HX.out.drawn⟩
      exact (HF.out.alike (Alike.of_ext HX.out fun b hb => hb.2.1)).mono fun b hb => ⟨hb.1, Nat.lt_of_lt_of_le hb.2.1 HX.out.size, hb.2.2⟩

end Go.Proofs.Ytpkgkabcikmopaa
