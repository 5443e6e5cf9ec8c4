/-
  A row of a call's own, put together anew with one value more at a place; an append whose source may be empty. The conditions: none (definitions and lemmas).
-/
import Derived.Test.YtpkgkabcikmopaaItems
import Derived.Test.YtpkgkabcikmopaaCompact
import Derived.Test.YtpkgkabcikmopaaOrdR
import Derived.Test.YtpkgkabcikmopaaTwo
namespace Go.Proofs.Ytpkgkabcikmopaa
open Go.RowKit

/-! ### the place from behind -/
section
variable {α : Type} {c : α → α → Int}
/-- what is looked through so far -/
def Behind (c : α → α → Int) (x : α) (L : List α) (p : Nat) (tb : Bool) : Prop := (∀ j y, p ≤ j → L[j]? = some y → ¬ c y x = -1) ∧ (tb = true ↔ ∃ j y, p ≤ j ∧ L[j]? = some y ∧ c y x = 0)
theorem Behind.start {x : α} {L : List α} : Behind c x L L.length false := ⟨fun j y h1 h2 => (by rw [List.getElem?_eq_none h1] at h2; cases h2), by
  constructor
  · intro h; cases h
  · rintro ⟨j, y, h1, h2, _⟩; rw [List.getElem?_eq_none h1] at h2; cases h2⟩
theorem Behind.step {x y : α} {L : List α} {p : Nat} {tb : Bool} (h : Behind c x L (p + 1) tb) (hy : L[p]? = some y) (h1 : ¬ c y x = -1) : Behind c x L p (tb || decide (c y x = 0)) := by
  refine ⟨fun j z hj hz => ?_, ?_⟩
  · rcases Nat.lt_or_ge p j with hp | hp
    · exact h.1 j z hp hz
    · have : j = p := by omega
      subst this; rw [hy] at hz; cases hz; exact h1
  · rw [Bool.or_eq_true, h.2, decide_eq_true_eq]
    constructor
    · rintro (⟨j, z, hj, hz, h0⟩ | h0)
      · exact ⟨j, z, by omega, hz, h0⟩
      · exact ⟨p, y, Nat.le_refl _, hy, h0⟩
    · rintro ⟨j, z, hj, hz, h0⟩
      rcases Nat.lt_or_ge p j with hp | hp
      · exact .inl ⟨j, z, hp, hz, h0⟩
      · have : j = p := by omega
        subst this; rw [hy] at hz; cases hz; exact .inr h0
theorem Behind.back {x z : α} {L : List α} {p : Nat} {tb : Bool} {ov : Int} (h : Behind c x L p tb) (hp : p ≠ 0) (hz : L[p - 1]? = some z) (hov : ov = c z x) (h1 : ov ≠ -1) : Behind c x L (p - 1) (tb || decide (ov = 0)) := by
  rw [hov]
  exact Behind.step (by rwa [show p - 1 + 1 = p by omega]) hz (by rwa [← hov])
/-- the place is found -/
theorem Behind.found (hg : ∀ x, GoodAt c x) {x : α} {L : List α} {p : Nat} {tb : Bool} (h : Behind c x L p tb) (hs : Strict c L) (hp : p ≤ L.length) (hend : p = 0 ∨ ∃ y, L[p - 1]? = some y ∧ c y x = -1) :
    (tb = true ∧ (∃ y ∈ L, c y x = 0) ∧ ins c x L = L) ∨ (tb = false ∧ (∀ y ∈ L, c y x ≠ 0) ∧ ins c x L = L.take p ++ x :: L.drop p) := by
  have hlow : ∀ i y, i < p → L[i]? = some y → c y x = -1 := fun i y hi hy => by
    rcases hend with h0 | ⟨z, hz, h0⟩
    · omega
    · rcases Nat.lt_or_ge i (p - 1) with hip | hip
      · obtain ⟨h1, e1⟩ := List.getElem?_eq_some_iff.1 hy
        obtain ⟨h2, e2⟩ := List.getElem?_eq_some_iff.1 hz
        have := List.pairwise_iff_getElem.1 hs i (p - 1) h1 h2 hip
        rw [e1, e2] at this
        exact (hg y).less z x this (by omega)
      · have : i = p - 1 := by omega
        subst this; rw [hy] at hz; cases hz; exact h0
  rcases ins_at hg hs hp hlow h.1 with ⟨he, hi⟩ | ⟨hn, hi⟩
  · refine .inl ⟨h.2.2 he, ?_, hi⟩
    obtain ⟨i, y, _, hy, h0⟩ := he
    exact ⟨y, List.mem_of_getElem? hy, h0⟩
  · refine .inr ⟨?_, fun y hy h0 => ?_, hi⟩
    · cases tb with
      | false => rfl
      | true => exact absurd (h.2.1 rfl) hn
    · obtain ⟨i, hi, rfl⟩ := List.getElem_of_mem hy
      rcases Nat.lt_or_ge i p with hip | hip
      · have := hlow i _ hip (List.getElem?_eq_getElem hi); omega
      · exact hn ⟨i, _, hip, List.getElem?_eq_getElem hi, h0⟩
theorem sortU_take_succ {l : List α} {k : Nat} {x : α} (h : l[k]? = some x) : sortU c (l.take (k + 1)) = ins c x (sortU c (l.take k)) := by
  rw [take_succ_of h, sortU, List.foldl_append]; rfl
theorem ins_length {x : α} : ∀ {l : List α}, (ins c x l).length ≤ l.length + 1
  | [] => by simp [ins]
  | y :: r => by
    simp only [ins]
    split
    · have := ins_length (x := x) (l := r); simp; omega
    · split <;> simp
theorem foldl_ins_length : ∀ (l a : List α), (l.foldl (fun a x => ins c x a) a).length ≤ l.length + a.length
  | [], a => by simp
  | x :: r, a => by
    rw [List.foldl_cons]
    have := foldl_ins_length r (ins c x a)
    have := ins_length (c := c) (x := x) (l := a)
    simp; omega
theorem sortU_length (l : List α) : (sortU c l).length ≤ l.length := by simpa [sortU] using foldl_ins_length (c := c) l []
theorem foldl_ins_cover (hr : ∀ x : α, c x x = 0) : ∀ (l a : List α) (x : α), (x ∈ l ∨ ∃ y ∈ a, c y x = 0) → ∃ y ∈ l.foldl (fun a x => ins c x a) a, c y x = 0
  | [], _, _, .inr h => h
  | [], _, _, .inl h => by cases h
  | z :: r, a, x, h => by
    rw [List.foldl_cons]
    refine foldl_ins_cover hr r _ x ?_
    rcases h with h | ⟨y, hy, h0⟩
    · rcases List.mem_cons.1 h with rfl | h
      · rcases mem_ins_new (c := c) (x := x) (l := a) with h | ⟨y, hy, h0⟩
        · exact .inr ⟨x, h, hr x⟩
        · exact .inr ⟨y, mem_ins_old hy, h0⟩
      · exact .inl h
    · exact .inr ⟨y, mem_ins_old hy, h0⟩
theorem sortU_cover (hr : ∀ x : α, c x x = 0) {l : List α} {x : α} (h : x ∈ l) : ∃ y ∈ sortU c l, c y x = 0 := foldl_ins_cover hr l [] x (.inl h)
end

theorem run_append_of_nil {P : Program} {w : World} (base : Nat) (t ty e : TypeId) (i : TypeInfo) (size : Nat) (ht : P.underlying t = some (.slice e)) (hi : P.info? e = some i)
    (v : Value) (n : Nat) (xs : List Value) (hown : w.ownsRow base e size v n xs) (c : Nat) : (Builtin.append_ #[t, t] ty #[v, .slice none 0 c]).run P w = .ok v w := by
  rcases hown.2 with ⟨rfl, rfl⟩ | ⟨g, cap, cur, rfl, _, _, hnc, _⟩
  · simp [Builtin.append_, run_underlying ht, Go.sizeOf, typeInfo, hi, Builtin.lenOf, Builtin.firstCells]
  · simp [Builtin.append_, run_underlying ht, Go.sizeOf, typeInfo, hi, Builtin.lenOf, Builtin.firstCells, hnc, storeCells]

/-- what a source must be -/
def SrcAt (w : World) (A : Option Addr) (m : Nat) (news : List Value) : Prop := 0 < m → ∃ b of, A = some ⟨b, of, none⟩ ∧ CellsAt w b of news

/-- append onto a row of the call's own, the source empty or not -/
theorem wpList_append_any {P : Program} {ops : Array Oper} {rest : List Oper} {o : Oper} {a : Act} {Q : Exit → Act → World → Prop} {w : World} (hgd : o.guard = none) (s x : Operand) (t : TypeId)
    (ho : o.op = .call { callee := .builtin .append, args := #[s, x], argTypes := #[t, t] })
    (base : Nat) (e : TypeId) (i : TypeInfo) (z : Value) (size bytes : Nat) (ht : P.underlying t = some (.slice e)) (hi : P.info? e = some i) (hz : i.zero = some z)
    (hsize : i.size = size) (hby : i.bytes = bytes) (hzs : z.cells.size = size) (hsz : 0 < size)
    (v : Value) (n : Nat) (xs : List Value) (hs : a.eval s = v) (hown : w.ownsRow base e size v n xs)
    (A : Option Addr) (m c : Nat) (news : List Value) (hx : a.eval x = .slice A m c) (hl : news.length = m * size) (hsrc : SrcAt w A m news) (h1 : ∀ u ∈ news, u.oneCell' = true)
    (h63 : n + m ≤ maxLen) (hbytes : (n + m) * bytes ≤ 140737488355328) (hbase : base ≤ w.heap.size)
    (h : ∀ v' w', w'.ownsRow base e size v' (n + m) (xs ++ news) → GrownBy w w' v.ownBlock → (v'.ownBlock = v.ownBlock ∨ v'.ownBlock = some w.heap.size) → wpList P ops Q rest (a.put o.dst v') w') : wpList P ops Q (o :: rest) a w :=
  wpList_plain hgd fun K hK => by
    have key : ∃ v' w', (Builtin.append_ #[t, t] o.type #[v, .slice A m c]).run P w = .ok v' w' ∧ w'.ownsRow base e size v' (n + m) (xs ++ news) ∧ GrownBy w w' v.ownBlock ∧ (v'.ownBlock = v.ownBlock ∨ v'.ownBlock = some w.heap.size) := by
      cases A with
      | none =>
        have hm : m = 0 := by
          rcases Nat.eq_zero_or_pos m with h0 | h0
          · exact h0
          · obtain ⟨_, _, h, _⟩ := hsrc h0; cases h
        subst hm
        have hn : news = [] := List.eq_nil_of_length_eq_zero (by simpa using hl)
        subst hn
        exact ⟨v, w, run_append_of_nil base t _ e i size ht hi v n xs hown c, by simpa using hown, GrownBy.of_ext _ (Ext.refl w), .inl rfl⟩
      | some ad =>
        obtain ⟨v', w', hrun, h2, h3, _, h4⟩ := run_append_own_at (P := P) w base t o.type e i z size bytes ht hi hz hsize hby hzs hsz v n xs hown ad m c news hl (fun j u hj => by
          have h0 : 0 < m := by
            rcases Nat.eq_zero_or_pos m with h0 | h0
            · subst h0
              have hn : news = [] := List.eq_nil_of_length_eq_zero (by simpa using hl)
              subst hn; simp at hj
            · exact h0
          obtain ⟨b, of, he, hc⟩ := hsrc h0
          injection he with he; subst he
          exact cell_add hc j u hj) h1 h63 hbytes hbase
        exact ⟨v', w', hrun, h2, ⟨h3, run_drawn _ _ _ _ hrun⟩, h4⟩
    obtain ⟨v', w', hrun, h2, h3, h4⟩ := key
    unfold Oper.wp execOp
    simp only [ho, resolve, invoke, builtin, Sem.run_bind, Sem.run_pure, Result.andThen_ok, List.map_toArray, List.map_cons, List.map_nil, hs, hx, hrun]
    exact hK _ _ (h v' w' h2 h3 h4)

/-- the front of a slice -/
theorem wpList_cut_to {P : Program} {ops : Array Oper} {rest : List Oper} {o : Oper} {a : Act} {Q : Exit → Act → World → Prop} {w : World} (hgd : o.guard = none) (t : TypeId) (x l : Operand) (ho : o.op = .slice t x none (some l) none)
    (size : Nat) (ht : P.underlying t = some (.slice (P.elem t))) (hz : ∀ w, (Go.sizeOf (P.elem t)).run P w = .ok size w) (A : Option Addr) (n cap p : Nat) (hx : a.eval x = .slice A n cap) (hl : a.eval l = .int .i64 p) (hp : p ≤ cap)
    (hk : wpList P ops Q rest (a.put o.dst (.slice A p cap)) w) : wpList P ops Q (o :: rest) a w :=
  wpList_plain hgd fun K hK => by
    have hrun := run_slice_h (P := P) (w := w) t A n cap ht .i64 (p : Int) (by omega) (by omega)
    rw [hz w] at hrun
    unfold Oper.wp execOp
    simp only [ho, Option.map, hx, hl, Instr.sliceAt, run_underlying ht, Sem.run_bind, Result.andThen_ok, hrun]
    have hA : (if cap = 0 then A else A.map fun x => x.add 0) = A := by
      split
      · rfl
      · cases A <;> simp [Addr.add]
    refine hK _ _ ?_
    simp only [sliced, Int.toNat_natCast, Nat.zero_mul, Nat.sub_zero, hA]
    exact hk

/-- where the back of a slice lies -/
def CutOf (A A2 : Option Addr) (n cap p size : Nat) : Prop := ∀ b of, n ≤ cap → p < n → A = some ⟨b, of, none⟩ → A2 = some ⟨b, of + p * size, none⟩
/-- the back of a slice -/
theorem wpList_cut_from {P : Program} {ops : Array Oper} {rest : List Oper} {o : Oper} {a : Act} {Q : Exit → Act → World → Prop} {w : World} (hgd : o.guard = none) (t : TypeId) (x l : Operand) (ho : o.op = .slice t x (some l) none none)
    (size : Nat) (ht : P.underlying t = some (.slice (P.elem t))) (hz : ∀ w, (Go.sizeOf (P.elem t)).run P w = .ok size w) (A : Option Addr) (n cap p : Nat) (hx : a.eval x = .slice A n cap) (hl : a.eval l = .int .i64 p) (hp : p ≤ n)
    (hk : ∀ A2, CutOf A A2 n cap p size → wpList P ops Q rest (a.put o.dst (.slice A2 (n - p) (cap - p))) w) : wpList P ops Q (o :: rest) a w :=
  wpList_plain hgd fun K hK => by
    have hrun := run_slice_l (P := P) (w := w) t A n cap ht .i64 (p : Int) (by omega) (by omega)
    rw [hz w] at hrun
    unfold Oper.wp execOp
    simp only [ho, Option.map, hx, hl, Instr.sliceAt, run_underlying ht, Sem.run_bind, Result.andThen_ok, hrun]
    refine hK _ _ ?_
    simp only [sliced, Int.toNat_natCast]
    refine hk _ fun b of hc h0 hA => ?_
    subst hA
    rw [if_neg (by omega)]
    simp only [Option.map, Addr.add]
    split
    · rename_i h; simp [h]
    · rfl

theorem Flat.insert {S : Nat → Prop} {w : World} {x : Val} {cs : List Value} (hx : Val.At S w x cs) : ∀ {p : Nat} {L : List Val} {xs : List Value}, Flat S w L xs → p ≤ L.length → Flat S w (L.take p ++ x :: L.drop p) (xs.take (p * 8) ++ cs ++ xs.drop (p * 8))
  | 0, L, xs, h, _ => by simpa using ⟨cs, xs, rfl, hx, h⟩
  | p + 1, [], xs, h, hp => by simp at hp
  | p + 1, v :: r, xs, ⟨c, ys, e, hv, hr⟩, hp => by
    subst e
    have hc := hv.length
    have := Flat.insert hx hr (p := p) (by simpa using hp)
    refine ⟨c, ys.take (p * 8) ++ cs ++ ys.drop (p * 8), ?_, hv, this⟩
    rw [List.take_append, List.drop_append, List.take_of_length_le (by omega), List.drop_eq_nil_of_le (by omega), show (p + 1) * 8 - c.length = p * 8 by omega]
    simp

/-- what is read out of a row of the call's own -/
theorem own_src {w : World} {base : Nat} {e : TypeId} {size n : Nat} {A : Option Addr} {cap : Nat} {xs : List Value} (h : w.ownsRow base e size (.slice A n cap) n xs) : n ≤ cap ∧ cap ≤ maxLen ∧ (0 < n → ∃ g, A = some ⟨g, 0, none⟩ ∧ base ≤ g ∧ g < w.heap.size ∧ CellsAt w g 0 xs) := by
  obtain ⟨hx, hv⟩ := h
  rcases hv with ⟨he, hn⟩ | ⟨g, cap', cur, he, hg, hh, hnc, hcm, hcur, ht⟩
  · injection he with h1 h2 h3
    subst h1 h2 h3
    exact ⟨Nat.le_refl _, by rw [maxLen_eq]; omega, by omega⟩
  · injection he with h1 _ h3
    subst h1 h3
    refine ⟨hnc, hcm, fun _ => ⟨g, rfl, hg, Blk_lt hh, fun j v hj => ?_⟩⟩
    rw [cell_of_row _ _ _ _ _ _ hh, Nat.zero_add]
    rw [← ht, List.getElem?_take] at hj
    split at hj
    · simpa using hj
    · cases hj
theorem CellsAt.part {w : World} {b o : Nat} {xs ys : List Value} {k : Nat} (h : CellsAt w b o xs) (hy : ∀ j v, ys[j]? = some v → xs[k + j]? = some v) : CellsAt w b (o + k) ys := fun j v hj => by
  rw [Nat.add_assoc]; exact h _ _ (hy j v hj)

theorem heap_alloc_at {w : World} {g : Nat} (h : g = w.heap.size) (o : Obj) : (w.alloc o).heap[g]? = some o := by subst h; exact heap_alloc_new w o

theorem ownsRow_base {w : World} {base base' : Nat} {e : TypeId} {size : Nat} {v : Value} {n : Nat} {xs : List Value} (h : w.ownsRow base e size v n xs) (hb : base' ≤ base) : w.ownsRow base' e size v n xs := by
  obtain ⟨h1, h2⟩ := h
  refine ⟨h1, ?_⟩
  rcases h2 with h2 | ⟨g, cap, cur, hv, hg, r⟩
  · exact .inl h2
  · exact .inr ⟨g, cap, cur, hv, Nat.le_trans hb hg, r⟩

theorem Flat.one {S : Nat → Prop} {w : World} : ∀ {l : List Val} {xs : List Value}, Flat S w l xs → ∀ u ∈ xs, u.oneCell' = true
  | [], xs, h, u, hu => by simp only [Flat] at h; subst h; cases hu
  | v :: r, xs, ⟨c, ys, e, hv, hr⟩, u, hu => by
    subst e
    rcases List.mem_append.1 hu with h | h
    · exact hv.one u h
    · exact Flat.one hr u h
theorem Try.elemV : Try.prog.underlying 24 = some (.slice (Try.prog.elem 24)) := by kernel_rfl
theorem Try.elemVs : ∀ w, (Go.sizeOf (Try.prog.elem 24)).run Try.prog w = .ok 8 w := fun _ => by kernel_rfl
theorem Try.sizeSl : ∀ w, (Go.sizeOf 24).run Try.prog w = .ok 1 w := fun _ => by kernel_rfl
theorem Try.sizeSs : ∀ w, (Go.sizeOf 25).run Try.prog w = .ok 1 w := fun _ => by kernel_rfl
theorem Try.elemS : Try.prog.underlying 25 = some (.slice (Try.prog.elem 25)) := by kernel_rfl
theorem Try.elemSs : ∀ w, (Go.sizeOf (Try.prog.elem 25)).run Try.prog w = .ok 1 w := fun _ => by kernel_rfl

/-- a value in the making: all fields but the rows are empty -/
structure Ins (S : Nat → Prop) (w1 : World) (O : Nat) (kd : Int) (L : List Val) (M : List ByteArray) (wr : World) : Prop where
  grown : GrownBy w1 wr (some O)
  rows : ∃ (I N : Value) (xs : List Value), wr.heap[O]? = some (.cells #[.int .i64 kd, .bool false, .int .i64 0, .string ByteArray.empty, .string ByteArray.empty, .string ByteArray.empty, I, N] 27 (0, 0)) ∧
    wr.ownsRow w1.heap.size 27 8 I L.length xs ∧ wr.ownsRow w1.heap.size 9 1 N M.length (M.map Value.string) ∧ Flat S wr L xs

theorem Ins.ext {S : Nat → Prop} {w1 wr wx : World} {O : Nat} {kd : Int} {L : List Val} {M : List ByteArray} (h : Ins S w1 O kd L M wr) (hS : ∀ b, S b → b < w1.heap.size) (k : Ext wr wx) : Ins S w1 O kd L M wx := by
  obtain ⟨I, N, xs, h1, h2, h3, h4⟩ := h.rows
  exact ⟨h.grown.trans (GrownBy.of_ext _ k), I, N, xs, (k.block _ (Blk_lt h1)).trans h1, ownsRow_ext h2 k, ownsRow_ext h3 k, h4.alike (Alike.of_ext k fun b hb => Nat.lt_of_lt_of_le (hS b hb) h.grown.size)⟩

/-- one value more among the items -/
theorem Ins.items_at {S : Nat → Prop} {w1 wr wx x3 x4 : World} {O n' : Nat} {kd : Int} {L L' : List Val} {M : List ByteArray} {I N I' : Value} {xs xs' cs : List Value} {x : Val} {p : Nat} (h : GrownBy w1 wr (some O)) (hwx : Ext wr wx) (hx3 : Ext wx x3)
    (_hO : wr.heap[O]? = some (.cells #[.int .i64 kd, .bool false, .int .i64 0, .string ByteArray.empty, .string ByteArray.empty, .string ByteArray.empty, I, N] 27 (0, 0))) (hOs : O < w1.heap.size)
    (hI' : x3.ownsRow wx.heap.size 27 8 I' n' xs') (hN : wr.ownsRow w1.heap.size 9 1 N M.length (M.map Value.string)) (hf : Flat S wr L xs) (hS : ∀ b, S b → b < w1.heap.size ∧ b ≠ O) (hva : Val.At S wr x cs) (hp : p ≤ L.length)
    (hn' : n' = L'.length) (hxs : xs' = xs.take (p * 8) ++ cs ++ xs.drop (p * 8)) (hL : L' = L.take p ++ x :: L.drop p)
    (hO4 : x4.heap[O]? = some (.cells #[.int .i64 kd, .bool false, .int .i64 0, .string ByteArray.empty, .string ByteArray.empty, .string ByteArray.empty, I', N] 27 (0, 0))) (g4 : GrownBy x3 x4 (some O)) :
    Ins S w1 O kd L' M x4 := by
  have hx := hwx.trans hx3
  have s1 := h.size
  have s2 := hx.size
  have hal : Alike S wr x4 := fun b hb => by
    obtain ⟨hb1, hb2⟩ := hS b hb
    rw [g4.block b (by omega) (fun e => by injection e with e; omega), hx.block b (by omega)]
  subst hn' hxs
  refine ⟨(h.trans (GrownBy.of_ext _ hx)).trans g4, I', N, xs.take (p * 8) ++ cs ++ xs.drop (p * 8), hO4, ?_, ?_, ?_⟩
  · exact ownsRow_apart (ownsRow_base hI' (Nat.le_trans s1 hwx.size)) g4 fun b hb e => by injection e with e; have := (hI'.lt b hb).1; have := hwx.size; omega
  · exact ownsRow_apart (ownsRow_ext hN hx) g4 fun b hb e => by injection e with e; have := (hN.lt b hb).1; omega
  · rw [hL]
    exact Flat.insert (hva.alike hal) (hf.alike hal) hp
theorem Ins.items {S : Nat → Prop} {w1 wr wx x3 : World} {O n' : Nat} {kd : Int} {L L' : List Val} {M : List ByteArray} {I N I' : Value} {xs xs' cs : List Value} {x : Val} {p : Nat} (h : GrownBy w1 wr (some O)) (hwx : Ext wr wx) (hx3 : Ext wx x3)
    (hO : wr.heap[O]? = some (.cells #[.int .i64 kd, .bool false, .int .i64 0, .string ByteArray.empty, .string ByteArray.empty, .string ByteArray.empty, I, N] 27 (0, 0))) (hOs : O < w1.heap.size)
    (hI' : x3.ownsRow wx.heap.size 27 8 I' n' xs') (hN : wr.ownsRow w1.heap.size 9 1 N M.length (M.map Value.string)) (hf : Flat S wr L xs) (hS : ∀ b, S b → b < w1.heap.size ∧ b ≠ O) (hva : Val.At S wr x cs) (hp : p ≤ L.length)
    (hn' : n' = L'.length) (hxs : xs' = xs.take (p * 8) ++ cs ++ xs.drop (p * 8)) (hL : L' = L.take p ++ x :: L.drop p) :
    Ins S w1 O kd L' M (x3.setCell ⟨O, 6, none⟩ I') :=
  Ins.items_at h hwx hx3 hO hOs hI' hN hf hS hva hp hn' hxs hL (heap_setCell_at (((hwx.trans hx3).block _ (Blk_lt hO)).trans hO) 6 I') (GrownBy.setCell x3 O 6 I')
/-- one name more among the names -/
theorem Ins.names_at {S : Nat → Prop} {w1 wr wx x3 x4 : World} {O n' : Nat} {kd : Int} {L : List Val} {M' : List ByteArray} {I N N' : Value} {xs xs' : List Value} (h : GrownBy w1 wr (some O)) (hwx : Ext wr wx) (hx3 : Ext wx x3)
    (_hO : wr.heap[O]? = some (.cells #[.int .i64 kd, .bool false, .int .i64 0, .string ByteArray.empty, .string ByteArray.empty, .string ByteArray.empty, I, N] 27 (0, 0))) (hOs : O < w1.heap.size)
    (hN' : x3.ownsRow wx.heap.size 9 1 N' n' xs') (hI : wr.ownsRow w1.heap.size 27 8 I L.length xs) (hf : Flat S wr L xs) (hS : ∀ b, S b → b < w1.heap.size ∧ b ≠ O)
    (hn' : n' = M'.length) (hxs : xs' = M'.map Value.string)
    (hO4 : x4.heap[O]? = some (.cells #[.int .i64 kd, .bool false, .int .i64 0, .string ByteArray.empty, .string ByteArray.empty, .string ByteArray.empty, I, N'] 27 (0, 0))) (g4 : GrownBy x3 x4 (some O)) :
    Ins S w1 O kd L M' x4 := by
  have hx := hwx.trans hx3
  have s1 := h.size
  have s2 := hx.size
  have hal : Alike S wr x4 := fun b hb => by
    obtain ⟨hb1, hb2⟩ := hS b hb
    rw [g4.block b (by omega) (fun e => by injection e with e; omega), hx.block b (by omega)]
  subst hn' hxs
  refine ⟨(h.trans (GrownBy.of_ext _ hx)).trans g4, I, N', xs, hO4, ?_, ?_, hf.alike hal⟩
  · exact ownsRow_apart (ownsRow_ext hI hx) g4 fun b hb e => by injection e with e; have := (hI.lt b hb).1; omega
  · exact ownsRow_apart (ownsRow_base hN' (Nat.le_trans s1 hwx.size)) g4 fun b hb e => by injection e with e; have := (hN'.lt b hb).1; have := hwx.size; omega

/-- a slice stored into a cell of a known block -/
theorem wpList_store_slice {P : Program} {ops : Array Oper} {rest : List Oper} {op : Oper} {a : Act} {w : World} {Q : Exit → Act → World → Prop} (hgd : op.guard = none) (ty : TypeId) (x y : Operand) (ho : op.op = .store ty x y)
    (g off : Nat) (hx : a.eval x = .pointer (some ⟨g, off, none⟩)) (A : Option Addr) (n c : Nat) (hy : a.eval y = .slice A n c) (hz : ∀ w, (Go.sizeOf ty).run P w = .ok 1 w)
    (T : TypeId) (cur : Array Value) (hg : w.heap[g]? = some (.cells cur T (0, 0))) (hl : off < cur.size)
    (hk : ∀ w', w'.heap[g]? = some (.cells (cur.setIfInBounds off (.slice A n c)) T (0, 0)) → GrownBy w w' (some g) → wpList P ops Q rest (a.put op.dst undef) w') : wpList P ops Q (op :: rest) a w :=
  wpList_plain hgd fun K hK => by
    have hst := run_storeCells_at (P := P) g off T [Value.slice A n c] 0 cur w hg (by simp; omega) (by simp [Value.oneCell'])
    simp only [Nat.add_zero] at hst
    have hst' : ∃ w', (storeVar ty ⟨g, off, none⟩ (.slice A n c)).run P w = .ok () w' ∧ w'.heap[g]? = some (.cells (cur.setIfInBounds off (.slice A n c)) T (0, 0)) ∧ GrownBy w w' (some g) := by
      refine ⟨w.setRow g (cur.toList.take off ++ [Value.slice A n c] ++ cur.toList.drop (off + 1)).toArray, ?_, ?_, GrownBy.setRow _ _ _⟩
      · simpa [storeVar, hz, Value.cells] using hst
      · rw [heap_setRow hg]
        congr 2
        apply Array.ext_getElem?
        intro i
        simp only [List.getElem?_toArray, Array.getElem?_setIfInBounds]
        rcases Nat.lt_trichotomy i off with h | h | h
        · rw [List.append_assoc, List.getElem?_append_left (by simp; omega), List.getElem?_take, if_pos h, if_neg (by omega)]; simp
        · subst h
          have hm : (cur.toList.take i).length = i := by simp; omega
          rw [List.append_assoc, List.getElem?_append_right (by omega), hm, if_pos rfl, if_pos hl]
          simp
        · rw [List.getElem?_append_right (by simp; omega), if_neg (by omega), List.getElem?_drop]
          simp
          congr 1
          omega
    obtain ⟨w', h1, h2, h3⟩ := hst'
    unfold Oper.wp execOp
    simp only [ho, hx, hy, Instr.storeAt, Instr.sureAddr, Sem.run_bind, Sem.run_pure, Result.andThen_ok, h1]
    exact hK _ _ (hk w' h2 h3)

/-- the fields so far -/
def recs (names : List ByteArray) (ys : List Val) (k : Nat) : List (ByteArray × Val) := sortU cmpN ((names.zip ys).take k)
theorem recs_length (names : List ByteArray) (ys : List Val) (k : Nat) : (recs names ys k).length ≤ k := Nat.le_trans (sortU_length _) (by rw [List.length_take]; omega)
theorem recs_name {names : List ByteArray} {ys : List Val} {k : Nat} {z : ByteArray × Val} (h : z ∈ recs names ys k) : z.1 ∈ names.take k := by
  have h1 := sortU_mem_of h
  obtain ⟨i, hi, e⟩ := List.getElem_of_mem h1
  have h2 : ((names.zip ys).take k)[i]? = some z := by rw [List.getElem?_eq_getElem hi, e]
  rw [List.getElem?_take] at h2
  split at h2
  · rename_i hk
    have h3 := (List.getElem?_zip_eq_some.1 h2).1
    exact List.mem_of_getElem? (i := i) (by rw [List.getElem?_take, if_pos hk]; exact h3)
  · cases h2
theorem recs_succ {names : List ByteArray} {ys : List Val} {k : Nat} {nm : ByteArray} {y : Val} (h1 : names[k]? = some nm) (h2 : ys[k]? = some y) : recs names ys (k + 1) = ins cmpN (nm, y) (recs names ys k) := sortU_take_succ (List.getElem?_zip_eq_some.2 ⟨h1, h2⟩)
theorem cmpN_zero' {x y : ByteArray × Val} : cmpN x y = 0 ↔ x.1 = y.1 := ⟨fun h => cmpS_eq h, fun h => by unfold cmpN; rw [h]; exact (GoodAt.cmpS _).refl⟩
theorem recs_twice {names : List ByteArray} {ys : List Val} {k : Nat} {nm : ByteArray} {y : Val} (h1 : names[k]? = some nm) (h : ∃ z ∈ recs names ys k, cmpN z (nm, y) = 0) : record names ys = (.zero, 13) := by
  obtain ⟨z, hz, h0⟩ := h
  have h2 := recs_name hz
  rw [cmpN_zero'.1 h0] at h2
  unfold record
  rw [if_neg]
  intro hnd
  rw [← take_drop_of h1] at hnd
  exact (List.nodup_append.1 hnd).2.2 nm h2 nm (by simp) rfl
theorem recs_nodup {names : List ByteArray} {ys : List Val} {k : Nat} {nm : ByteArray} {y : Val} (hl : names.length ≤ ys.length) (h1 : names[k]? = some nm) (hn : (names.take k).Nodup) (h : ∀ z ∈ recs names ys k, cmpN z (nm, y) ≠ 0) : (names.take (k + 1)).Nodup := by
  rw [take_succ_of h1, List.nodup_append]
  refine ⟨hn, by simp, fun a ha b hb e => ?_⟩
  simp at hb
  subst hb; subst e
  have hz : ∃ v, (a, v) ∈ (names.zip ys).take k := by
    obtain ⟨i, hi, hia⟩ := List.getElem_of_mem ha
    rw [List.length_take] at hi
    rw [List.getElem_take] at hia
    refine ⟨ys[i]'(by omega), List.mem_of_getElem? (i := i) ?_⟩
    rw [List.getElem?_take, if_pos (by omega), List.getElem?_zip_eq_some]
    exact ⟨by rw [List.getElem?_eq_getElem (by omega), hia], List.getElem?_eq_getElem (by omega)⟩
  obtain ⟨v, hv⟩ := hz
  obtain ⟨z, hz, h0⟩ := sortU_cover (c := cmpN) (fun x => (GoodAt.cmpN x).refl) hv
  exact h z hz (cmpN_zero'.2 (cmpN_zero'.1 h0))
theorem recs_all {names : List ByteArray} {ys : List Val} (hl : names.length = ys.length) (hn : names.Nodup) : record names ys = (.mk 6 false 0 empty empty empty ((recs names ys names.length).map (·.2)) ((recs names ys names.length).map (·.1)), 0) := by
  unfold record
  rw [if_pos hn, recs, List.take_of_length_le (by rw [List.length_zip]; omega)]

/-- the value that has been made -/
theorem Ins.fin {S S' : Nat → Prop} {w1 wr : World} {O : Nat} {kd : Int} {L : List Val} {M : List ByteArray} (h : Ins S w1 O kd L M wr) (hk : I64 kd) (hl : L.length ≤ LIM) (hm : M.length ≤ LIM) (hs : ∀ s ∈ M, s.size ≤ maxLen) (h1 : ∀ b, S b → S' b) (h2 : ∀ b, w1.heap.size ≤ b → b < wr.heap.size → S' b) :
    ∃ I N : Value, wr.heap[O]? = some (.cells #[.int .i64 kd, .bool false, .int .i64 0, .string ByteArray.empty, .string ByteArray.empty, .string ByteArray.empty, I, N] 27 (0, 0)) ∧
      Val.At S' wr (.mk kd false 0 empty empty empty L M) [.int .i64 kd, .bool false, .int .i64 0, .string ByteArray.empty, .string ByteArray.empty, .string ByteArray.empty, I, N] := by
  obtain ⟨I, N, xs, hO, hI, hN, hf⟩ := h.rows
  refine ⟨I, N, hO, ?_⟩
  have hv := own_vals (S' := S') hI hf hl h1 fun b hb => h2 b (hI.lt b hb).1 (hI.lt b hb).2
  have hn := own_strs (S := S') hN hm hs fun b hb => h2 b (hN.lt b hb).1 (hN.lt b hb).2
  obtain ⟨A, cap, rfl, h3, h4⟩ := hv
  have h0 : empty.size ≤ maxLen := by rw [maxLen_eq]; decide
  unfold Val.At
  exact ⟨A, cap, N, rfl, ⟨hk, ⟨by omega, by omega⟩, h0, h0, h0⟩, h3, h4, hn⟩

end Go.Proofs.Ytpkgkabcikmopaa
