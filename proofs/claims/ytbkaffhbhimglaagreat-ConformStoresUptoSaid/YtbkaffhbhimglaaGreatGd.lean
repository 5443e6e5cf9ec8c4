/-
  A row of a call's own, put together anew with one value more at a place; an append whose source may be empty. The conditions: none (definitions and lemmas).
-/
import Derived.Test.YtbkaffhbhimglaaGreatGc
import Derived.Test.YtbkaffhbhimglaaGreatGb
import Derived.Laws.StructEq
namespace Go.Proofs.YtbkaffhbhimglaaGreat
open Go.RowKit
/-! ### the place from behind -/
section
variable {α : Type} {c : α → α → Int}
def Behind (c : α → α → Int) (x : α) (L : List α) (p : Nat) (tb : Bool) : Prop := (∀ j y, p ≤ j → L[j]? = some y → ¬ c y x = -1) ∧ (tb = true ↔ ∃ j y, p ≤ j ∧ L[j]? = some y ∧ c y x = 0)
theorem Behind.start {x : α} {L : List α} : Behind c x L L.length false := ⟨fun j y h1 h2 => (by rw [List.getElem?_eq_none h1] at h2; cases h2), by
 constructor
 ·intro h; cases h
 ·rintro ⟨j, y, h1, h2, _⟩; rw [List.getElem?_eq_none h1] at h2; cases h2⟩
theorem Behind.step {x y : α} {L : List α} {p : Nat} {tb : Bool} (h : Behind c x L (p + 1) tb) (hy : L[p]? = some y) (h1 : ¬ c y x = -1) : Behind c x L p (tb || decide (c y x = 0)) := by
 refine ⟨fun j z hj hz => ?_, ?_⟩
 ·rcases Nat.lt_or_ge p j with hp | hp
  ·exact h.1 j z hp hz
  ·have : j = p := by omega
   subst this; rw [hy] at hz; cases hz; exact h1
 ·rw [Bool.or_eq_true, h.2, decide_eq_true_eq]
  constructor
  ·rintro (⟨j, z, hj, hz, h0⟩ | h0)
   ·exact ⟨j, z, by omega, hz, h0⟩
   ·exact ⟨p, y, Nat.le_refl _, hy, h0⟩
  ·rintro ⟨j, z, hj, hz, h0⟩
   rcases Nat.lt_or_ge p j with hp | hp
   ·exact .inl ⟨j, z, hp, hz, h0⟩
   ·have : j = p := by omega
    subst this; rw [hy] at hz; cases hz; exact .inr h0
theorem Behind.back {x z : α} {L : List α} {p : Nat} {tb : Bool} {ov : Int} (h : Behind c x L p tb) (hp : p ≠ 0) (hz : L[p - 1]? = some z) (hov : ov = c z x) (h1 : ov ≠ -1) : Behind c x L (p - 1) (tb || decide (ov = 0)) := by
 rw [hov]
 exact Behind.step (by rwa [show p - 1 + 1 = p by omega]) hz (by rwa [← hov])
theorem Behind.found (hg : ∀ x, GoodAt c x) {x : α} {L : List α} {p : Nat} {tb : Bool} (h : Behind c x L p tb) (hs : zb0 c L) (hp : p ≤ L.length) (hend : p = 0 ∨ ∃ y, L[p - 1]? = some y ∧ c y x = -1) :
  (tb = true ∧ (∃ y ∈ L, c y x = 0) ∧ ins c x L = L) ∨ (tb = false ∧ (∀ y ∈ L, c y x ≠ 0) ∧ ins c x L = L.take p ++ x :: L.drop p) := by
 have hlow : ∀ i y, i < p → L[i]? = some y → c y x = -1 := fun i y hi hy => by
  rcases hend with h0 | ⟨z, hz, h0⟩
  ·omega
  ·rcases Nat.lt_or_ge i (p - 1) with hip | hip
   ·obtain ⟨h1, e1⟩ := List.getElem?_eq_some_iff.1 hy
    obtain ⟨h2, e2⟩ := List.getElem?_eq_some_iff.1 hz
    have := List.pairwise_iff_getElem.1 hs i (p - 1) h1 h2 hip
    rw [e1, e2] at this
    exact (hg y).less z x this (by omega)
   ·have : i = p - 1 := by omega
    subst this; rw [hy] at hz; cases hz; exact h0
 rcases ins_at hg hs hp hlow h.1 with ⟨he, hi⟩ | ⟨hn, hi⟩
 ·refine .inl ⟨h.2.2 he, ?_, hi⟩
  obtain ⟨i, y, _, hy, h0⟩ := he
  exact ⟨y, List.mem_of_getElem? hy, h0⟩
 ·refine .inr ⟨?_, fun y hy h0 => ?_, hi⟩
  ·cases tb with
   | false => rfl
   | true => exact absurd (h.2.1 rfl) hn
  ·obtain ⟨i, hi, rfl⟩ := List.getElem_of_mem hy
   rcases Nat.lt_or_ge i p with hip | hip
   ·have := hlow i _ hip (List.getElem?_eq_getElem hi); omega
   ·exact hn ⟨i, _, hip, List.getElem?_eq_getElem hi, h0⟩
theorem zdh {l : List α} {k : Nat} {x : α} (h : l[k]? = some x) : sortU c (l.take (k + 1)) = ins c x (sortU c (l.take k)) := by
 rw [za8 h, sortU, List.foldl_append]; rfl
theorem ins_length {x : α} : ∀ {l : List α}, (ins c x l).length ≤ l.length + 1
 | [] => by simp [ins]
 | y :: r => by
  simp only [ins]
  split
  ·have := ins_length (x := x) (l := r); simp; omega
  ·split <;> simp
theorem foldl_ins_length : ∀ (l a : List α), (l.foldl (fun a x => ins c x a) a).length ≤ l.length + a.length
 | [], a => by simp
 | x :: r, a => by
  rw [List.foldl_cons]
  have := foldl_ins_length r (ins c x a)
  have := ins_length (c := c) (x := x) (l := a)
  simp; omega
theorem zci (l : List α) : (sortU c l).length ≤ l.length := by simpa [sortU] using foldl_ins_length (c := c) l []
theorem foldl_ins_cover (hr : ∀ x : α, c x x = 0) : ∀ (l a : List α) (x : α), (x ∈ l ∨ ∃ y ∈ a, c y x = 0) → ∃ y ∈ l.foldl (fun a x => ins c x a) a, c y x = 0
 | [], _, _, .inr h => h
 | [], _, _, .inl h => by cases h
 | z :: r, a, x, h => by
  rw [List.foldl_cons]
  refine foldl_ins_cover hr r _ x ?_
  rcases h with h | ⟨y, hy, h0⟩
  ·rcases List.mem_cons.1 h with rfl | h
   ·rcases mem_ins_new (c := c) (x := x) (l := a) with h | ⟨y, hy, h0⟩
    ·exact .inr ⟨x, h, hr x⟩
    ·exact .inr ⟨y, zdo hy, h0⟩
   ·exact .inl h
  ·exact .inr ⟨y, zdo hy, h0⟩
theorem sortU_cover (hr : ∀ x : α, c x x = 0) {l : List α} {x : α} (h : x ∈ l) : ∃ y ∈ sortU c l, c y x = 0 := foldl_ins_cover hr l [] x (.inl h)
end
theorem run_append_of_nil {P : Program} {w : World} (base : Nat) (t ty e : TypeId) (i : TypeInfo) (size : Nat) (ht : P.underlying t = some (.slice e)) (hi : P.info? e = some i)
  (v : Value) (n : Nat) (xs : List Value) (hown : w.ownsRow base e size v n xs) (c : Nat) : (Builtin.append_ #[t, t] ty #[v, .slice none 0 c]).run P w = .ok v w := by
 rcases hown.2 with ⟨rfl, rfl⟩ | ⟨g, cap, cur, rfl, _, _, hnc, _⟩
 ·simp [Builtin.append_, run_underlying ht, Go.sizeOf, typeInfo, hi, Builtin.lenOf, Builtin.firstCells]
 ·simp [Builtin.append_, run_underlying ht, Go.sizeOf, typeInfo, hi, Builtin.lenOf, Builtin.firstCells, hnc, storeCells]
def SrcAt (w : World) (A : Option Addr) (m : Nat) (news : List Value) : Prop := 0 < m → ∃ b of, A = some ⟨b, of, none⟩ ∧ CellsAt w b of news
theorem za9 {P : Program} {ops : Array Oper} {rest : List Oper} {o : Oper} {a : Act} {Q : Exit → Act → World → Prop} {w : World} (hgd : o.guard = none) (s x : Operand) (t : TypeId)
  (ho : o.op = .call { callee := .builtin .append, args := #[s, x], argTypes := #[t, t] })
  (base : Nat) (e : TypeId) (i : TypeInfo) (z : Value) (size bytes : Nat) (ht : P.underlying t = some (.slice e)) (hi : P.info? e = some i) (hz : i.zero = some z)
  (hsize : i.size = size) (hby : i.bytes = bytes) (hzs : z.cells.size = size) (hsz : 0 < size)
  (v : Value) (n : Nat) (xs : List Value) (hs : a.eval s = v) (hown : w.ownsRow base e size v n xs)
  (A : Option Addr) (m c : Nat) (news : List Value) (hx : a.eval x = .slice A m c) (hl : news.length = m * size) (hsrc : SrcAt w A m news) (h1 : ∀ u ∈ news, u.oneCell' = true)
  (h63 : n + m ≤ maxLen) (hbytes : (n + m) * bytes ≤ 140737488355328) (hbase : base ≤ w.heap.size)
  (h : ∀ v' w', w'.ownsRow base e size v' (n + m) (xs ++ news) → GrownBy w w' v.ownBlock → (v'.ownBlock = v.ownBlock ∨ v'.ownBlock = some w.heap.size) → wpList P ops Q rest (a.put o.dst v') w') : wpList P ops Q (o :: rest) a w :=
 wpList_plain hgd fun K hK => by
  have key : ∃ v' w', (Builtin.append_ #[t, t] o.type #[v, .slice A m c]).run P w = .ok v' w' ∧ w'.ownsRow base e size v' (n + m) (xs ++ news) ∧ GrownBy w w' v.ownBlock ∧ (v'.ownBlock = v.ownBlock ∨ v'.ownBlock = some w.heap.size) := by
   cases A with
   | none =>
    have hm : m = 0 := by
     rcases Nat.eq_zero_or_pos m with h0 | h0
     ·exact h0
     ·obtain ⟨_, _, h, _⟩ := hsrc h0; cases h
    subst hm
    have hn : news = [] := List.eq_nil_of_length_eq_zero (by simpa using hl)
    subst hn
    exact ⟨v, w, run_append_of_nil base t _ e i size ht hi v n xs hown c, by simpa using hown, GrownBy.of_ext _ (Ext.refl w), .inl rfl⟩
   | some ad =>
    obtain ⟨v', w', hrun, h2, h3, _, h4⟩ := run_append_own_at (P := P) w base t o.type e i z size bytes ht hi hz hsize hby hzs hsz v n xs hown ad m c news hl (fun j u hj => by
     have h0 : 0 < m := by
      rcases Nat.eq_zero_or_pos m with h0 | h0
      ·subst h0
       have hn : news = [] := List.eq_nil_of_length_eq_zero (by simpa using hl)
       subst hn; simp at hj
      ·exact h0
     obtain ⟨b, of, he, hc⟩ := hsrc h0
     injection he with he; subst he
     exact cell_add hc j u hj) h1 h63 hbytes hbase
    exact ⟨v', w', hrun, h2, ⟨h3, zed _ _ _ _ hrun⟩, h4⟩
  obtain ⟨v', w', hrun, h2, h3, h4⟩ := key
  unfold Oper.wp execOp
  simp only [ho, resolve, invoke, builtin, Sem.run_bind, Sem.run_pure, Result.andThen_ok, List.map_toArray, List.map_cons, List.map_nil, hs, hx, hrun]
  exact hK _ _ (h v' w' h2 h3 h4)
theorem zcl {P : Program} {ops : Array Oper} {rest : List Oper} {o : Oper} {a : Act} {Q : Exit → Act → World → Prop} {w : World} (hgd : o.guard = none) (t : TypeId) (x l : Operand) (ho : o.op = .slice t x none (some l) none)
  (size : Nat) (ht : P.underlying t = some (.slice (P.elem t))) (hz : ∀ w, (Go.sizeOf (P.elem t)).run P w = .ok size w) (A : Option Addr) (n cap p : Nat) (hx : a.eval x = .slice A n cap) (hl : a.eval l = .int .i64 p) (hp : p ≤ cap)
  (hk : wpList P ops Q rest (a.put o.dst (.slice A p cap)) w) : wpList P ops Q (o :: rest) a w :=
 wpList_plain hgd fun K hK => by
  have hrun := run_slice_h (P := P) (w := w) t A n cap ht .i64 (p : Int) (by omega) (by omega)
  rw [hz w] at hrun
  unfold Oper.wp execOp
  simp only [ho, Option.map, hx, hl, Instr.sliceAt, run_underlying ht, Sem.run_bind, Result.andThen_ok, hrun]
  have hA : (if cap = 0 then A else A.map fun x => x.add 0) = A := by
   split
   ·rfl
   ·cases A <;> simp [Addr.add]
  refine hK _ _ ?_
  simp only [sliced, Int.toNat_natCast, Nat.zero_mul, Nat.sub_zero, hA]
  exact hk
def CutOf (A A2 : Option Addr) (n cap p size : Nat) : Prop := ∀ b of, n ≤ cap → p < n → A = some ⟨b, of, none⟩ → A2 = some ⟨b, of + p * size, none⟩
theorem zb2 {P : Program} {ops : Array Oper} {rest : List Oper} {o : Oper} {a : Act} {Q : Exit → Act → World → Prop} {w : World} (hgd : o.guard = none) (t : TypeId) (x l : Operand) (ho : o.op = .slice t x (some l) none none)
  (size : Nat) (ht : P.underlying t = some (.slice (P.elem t))) (hz : ∀ w, (Go.sizeOf (P.elem t)).run P w = .ok size w) (A : Option Addr) (n cap p : Nat) (hx : a.eval x = .slice A n cap) (hl : a.eval l = .int .i64 p) (hp : p ≤ n)
  (hk : ∀ A2, CutOf A A2 n cap p size → wpList P ops Q rest (a.put o.dst (.slice A2 (n - p) (cap - p))) w) : wpList P ops Q (o :: rest) a w :=
 wpList_plain hgd fun K hK => by
  have hrun := run_slice_l (P := P) (w := w) t A n cap ht .i64 (p : Int) (by omega) (by omega)
  rw [hz w] at hrun
  unfold Oper.wp execOp
  simp only [ho, Option.map, hx, hl, Instr.sliceAt, run_underlying ht, Sem.run_bind, Result.andThen_ok, hrun]
  refine hK _ _ ?_
  simp only [sliced, Int.toNat_natCast]
  refine hk _ fun b of hc h0 hA => ?_
  subst hA
  rw [if_neg (by omega)]
  simp only [Option.map, Addr.add]
  split
  ·rename_i h; simp [h]
  ·rfl
theorem Flat.insert {S : Nat → Prop} {w : World} {x : Val} {cs : List Value} (hx : Val.At S w x cs) : ∀ {p : Nat} {L : List Val} {xs : List Value}, Flat S w L xs → p ≤ L.length → Flat S w (L.take p ++ x :: L.drop p) (xs.take (p * 8) ++ cs ++ xs.drop (p * 8))
 | 0, L, xs, h, _ => by simpa using ⟨cs, xs, rfl, hx, h⟩
 | p + 1, [], xs, h, hp => by simp at hp
 | p + 1, v :: r, xs, ⟨c, ys, e, hv, hr⟩, hp => by
  subst e
  have hc := hv.length
  have := Flat.insert hx hr (p := p) (by simpa using hp)
  refine ⟨c, ys.take (p * 8) ++ cs ++ ys.drop (p * 8), ?_, hv, this⟩
  rw [List.take_append, List.drop_append, List.take_of_length_le (by omega), List.drop_eq_nil_of_le (by omega), show (p + 1) * 8 - c.length = p * 8 by omega]
  simp
theorem own_src {w : World} {base : Nat} {e : TypeId} {size n : Nat} {A : Option Addr} {cap : Nat} {xs : List Value} (h : w.ownsRow base e size (.slice A n cap) n xs) : n ≤ cap ∧ cap ≤ maxLen ∧ (0 < n → ∃ g, A = some ⟨g, 0, none⟩ ∧ base ≤ g ∧ g < w.heap.size ∧ CellsAt w g 0 xs) := by
 obtain ⟨hx, hv⟩ := h
 rcases hv with ⟨he, hn⟩ | ⟨g, cap', cur, he, hg, hh, hnc, hcm, hcur, ht⟩
 ·injection he with h1 h2 h3
  subst h1 h2 h3
  exact ⟨Nat.le_refl _, by rw [zab]; omega, by omega⟩
 ·injection he with h1 _ h3
  subst h1 h3
  refine ⟨hnc, hcm, fun _ => ⟨g, rfl, hg, zad hh, fun j v hj => ?_⟩⟩
  rw [cell_of_row _ _ _ _ _ _ hh, Nat.zero_add]
  rw [← ht, List.getElem?_take] at hj
  split at hj
  ·simpa using hj
  ·cases hj
theorem CellsAt.part {w : World} {b o : Nat} {xs ys : List Value} {k : Nat} (h : CellsAt w b o xs) (hy : ∀ j v, ys[j]? = some v → xs[k + j]? = some v) : CellsAt w b (o + k) ys := fun j v hj => by
 rw [Nat.add_assoc]; exact h _ _ (hy j v hj)
theorem zay {w : World} {g : Nat} (h : g = w.heap.size) (o : Obj) : (w.alloc o).heap[g]? = some o := by subst h; exact heap_alloc_new w o
theorem zd4 {w : World} {base base' : Nat} {e : TypeId} {size : Nat} {v : Value} {n : Nat} {xs : List Value} (h : w.ownsRow base e size v n xs) (hb : base' ≤ base) : w.ownsRow base' e size v n xs := by
 obtain ⟨h1, h2⟩ := h
 refine ⟨h1, ?_⟩
 rcases h2 with h2 | ⟨g, cap, cur, hv, hg, r⟩
 ·exact .inl h2
 ·exact .inr ⟨g, cap, cur, hv, Nat.le_trans hb hg, r⟩
theorem Flat.one {S : Nat → Prop} {w : World} : ∀ {l : List Val} {xs : List Value}, Flat S w l xs → ∀ u ∈ xs, u.oneCell' = true
 | [], xs, h, u, hu => by simp only [Flat] at h; subst h; cases hu
 | v :: r, xs, ⟨c, ys, e, hv, hr⟩, u, hu => by
  subst e
  rcases List.mem_append.1 hu with h | h
  ·exact hv.one u h
  ·exact Flat.one hr u h
theorem Tryz.elemV : Tryz.prog.underlying 44 = some (.slice (Tryz.prog.elem 44)) := by kernel_rfl
theorem zer : ∀ w, (Go.sizeOf (Tryz.prog.elem 44)).run Tryz.prog w = .ok 8 w := fun _ => by kernel_rfl
theorem Tryz.sizeSl : ∀ w, (Go.sizeOf 44).run Tryz.prog w = .ok 1 w := fun _ => by kernel_rfl
theorem Tryz.sizeSs : ∀ w, (Go.sizeOf 36).run Tryz.prog w = .ok 1 w := fun _ => by kernel_rfl
theorem Tryz.elemS : Tryz.prog.underlying 36 = some (.slice (Tryz.prog.elem 36)) := by kernel_rfl
theorem Tryz.elemSs : ∀ w, (Go.sizeOf (Tryz.prog.elem 36)).run Tryz.prog w = .ok 1 w := fun _ => by kernel_rfl
structure Ins (S : Nat → Prop) (w1 : World) (O : Nat) (kd : Int) (L : List Val) (M : List ByteArray) (wr : World) : Prop where
 grown : GrownBy w1 wr (some O)
 rows : ∃ (I N : Value) (xs : List Value), wr.heap[O]? = some (.cells #[.int .i64 kd, .bool false, .int .i64 0, .string ByteArray.empty, .string ByteArray.empty, .string ByteArray.empty, I, N] 46 (0, 0)) ∧
  wr.ownsRow w1.heap.size 46 8 I L.length xs ∧ wr.ownsRow w1.heap.size 9 1 N M.length (M.map Value.string) ∧ Flat S wr L xs
theorem Ins.ext {S : Nat → Prop} {w1 wr wx : World} {O : Nat} {kd : Int} {L : List Val} {M : List ByteArray} (h : Ins S w1 O kd L M wr) (hS : ∀ b, S b → b < w1.heap.size) (k : Ext wr wx) : Ins S w1 O kd L M wx := by
 obtain ⟨I, N, xs, h1, h2, h3, h4⟩ := h.rows
 exact ⟨h.grown.trans (GrownBy.of_ext _ k), I, N, xs, (k.block _ (zad h1)).trans h1, zam h2 k, zam h3 k, h4.alike (Alike.of_ext k fun b hb => Nat.lt_of_lt_of_le (hS b hb) h.grown.size)⟩
theorem Ins.items_at {S : Nat → Prop} {w1 wr wx x3 x4 : World} {O n' : Nat} {kd : Int} {L L' : List Val} {M : List ByteArray} {I N I' : Value} {xs xs' cs : List Value} {x : Val} {p : Nat} (h : GrownBy w1 wr (some O)) (hwx : Ext wr wx) (hx3 : Ext wx x3)
  (_hO : wr.heap[O]? = some (.cells #[.int .i64 kd, .bool false, .int .i64 0, .string ByteArray.empty, .string ByteArray.empty, .string ByteArray.empty, I, N] 46 (0, 0))) (hOs : O < w1.heap.size)
  (hI' : x3.ownsRow wx.heap.size 46 8 I' n' xs') (hN : wr.ownsRow w1.heap.size 9 1 N M.length (M.map Value.string)) (hf : Flat S wr L xs) (hS : ∀ b, S b → b < w1.heap.size ∧ b ≠ O) (hva : Val.At S wr x cs) (hp : p ≤ L.length)
  (hn' : n' = L'.length) (hxs : xs' = xs.take (p * 8) ++ cs ++ xs.drop (p * 8)) (hL : L' = L.take p ++ x :: L.drop p)
  (hO4 : x4.heap[O]? = some (.cells #[.int .i64 kd, .bool false, .int .i64 0, .string ByteArray.empty, .string ByteArray.empty, .string ByteArray.empty, I', N] 46 (0, 0))) (g4 : GrownBy x3 x4 (some O)) :
  Ins S w1 O kd L' M x4 := by
 have hx := hwx.trans hx3
 have s1 := h.size
 have s2 := hx.size
 have hal : Alike S wr x4 := fun b hb => by
  obtain ⟨hb1, hb2⟩ := hS b hb
  rw [g4.block b (by omega) (fun e => by injection e with e; omega), hx.block b (by omega)]
 subst hn' hxs
 refine ⟨(h.trans (GrownBy.of_ext _ hx)).trans g4, I', N, xs.take (p * 8) ++ cs ++ xs.drop (p * 8), hO4, ?_, ?_, ?_⟩
 ·exact zav (zd4 hI' (Nat.le_trans s1 hwx.size)) g4 fun b hb e => by injection e with e; have := (hI'.lt b hb).1; have := hwx.size; omega
 ·exact zav (zam hN hx) g4 fun b hb e => by injection e with e; have := (hN.lt b hb).1; omega
 ·rw [hL]
  exact Flat.insert (hva.alike hal) (hf.alike hal) hp
theorem Ins.items {S : Nat → Prop} {w1 wr wx x3 : World} {O n' : Nat} {kd : Int} {L L' : List Val} {M : List ByteArray} {I N I' : Value} {xs xs' cs : List Value} {x : Val} {p : Nat} (h : GrownBy w1 wr (some O)) (hwx : Ext wr wx) (hx3 : Ext wx x3)
  (hO : wr.heap[O]? = some (.cells #[.int .i64 kd, .bool false, .int .i64 0, .string ByteArray.empty, .string ByteArray.empty, .string ByteArray.empty, I, N] 46 (0, 0))) (hOs : O < w1.heap.size)
  (hI' : x3.ownsRow wx.heap.size 46 8 I' n' xs') (hN : wr.ownsRow w1.heap.size 9 1 N M.length (M.map Value.string)) (hf : Flat S wr L xs) (hS : ∀ b, S b → b < w1.heap.size ∧ b ≠ O) (hva : Val.At S wr x cs) (hp : p ≤ L.length)
  (hn' : n' = L'.length) (hxs : xs' = xs.take (p * 8) ++ cs ++ xs.drop (p * 8)) (hL : L' = L.take p ++ x :: L.drop p) :
  Ins S w1 O kd L' M (x3.setCell ⟨O, 6, none⟩ I') :=
 Ins.items_at h hwx hx3 hO hOs hI' hN hf hS hva hp hn' hxs hL (zbm (((hwx.trans hx3).block _ (zad hO)).trans hO) 6 I') (GrownBy.setCell x3 O 6 I')
theorem Ins.names_at {S : Nat → Prop} {w1 wr wx x3 x4 : World} {O n' : Nat} {kd : Int} {L : List Val} {M' : List ByteArray} {I N N' : Value} {xs xs' : List Value} (h : GrownBy w1 wr (some O)) (hwx : Ext wr wx) (hx3 : Ext wx x3)
  (_hO : wr.heap[O]? = some (.cells #[.int .i64 kd, .bool false, .int .i64 0, .string ByteArray.empty, .string ByteArray.empty, .string ByteArray.empty, I, N] 46 (0, 0))) (hOs : O < w1.heap.size)
  (hN' : x3.ownsRow wx.heap.size 9 1 N' n' xs') (hI : wr.ownsRow w1.heap.size 46 8 I L.length xs) (hf : Flat S wr L xs) (hS : ∀ b, S b → b < w1.heap.size ∧ b ≠ O)
  (hn' : n' = M'.length) (hxs : xs' = M'.map Value.string)
  (hO4 : x4.heap[O]? = some (.cells #[.int .i64 kd, .bool false, .int .i64 0, .string ByteArray.empty, .string ByteArray.empty, .string ByteArray.empty, I, N'] 46 (0, 0))) (g4 : GrownBy x3 x4 (some O)) :
  Ins S w1 O kd L M' x4 := by
 have hx := hwx.trans hx3
 have s1 := h.size
 have s2 := hx.size
 have hal : Alike S wr x4 := fun b hb => by
  obtain ⟨hb1, hb2⟩ := hS b hb
  rw [g4.block b (by omega) (fun e => by injection e with e; omega), hx.block b (by omega)]
 subst hn' hxs
 refine ⟨(h.trans (GrownBy.of_ext _ hx)).trans g4, I, N', xs, hO4, ?_, ?_, hf.alike hal⟩
 ·exact zav (zam hI hx) g4 fun b hb e => by injection e with e; have := (hI.lt b hb).1; omega
 ·exact zav (zd4 hN' (Nat.le_trans s1 hwx.size)) g4 fun b hb e => by injection e with e; have := (hN'.lt b hb).1; have := hwx.size; omega
theorem zd0 {P : Program} {ops : Array Oper} {rest : List Oper} {op : Oper} {a : Act} {w : World} {Q : Exit → Act → World → Prop} (hgd : op.guard = none) (ty : TypeId) (x y : Operand) (ho : op.op = .store ty x y)
  (g off : Nat) (hx : a.eval x = .pointer (some ⟨g, off, none⟩)) (A : Option Addr) (n c : Nat) (hy : a.eval y = .slice A n c) (hz : ∀ w, (Go.sizeOf ty).run P w = .ok 1 w)
  (T : TypeId) (cur : Array Value) (hg : w.heap[g]? = some (.cells cur T (0, 0))) (hl : off < cur.size)
  (hk : ∀ w', w'.heap[g]? = some (.cells (cur.setIfInBounds off (.slice A n c)) T (0, 0)) → GrownBy w w' (some g) → wpList P ops Q rest (a.put op.dst undef) w') : wpList P ops Q (op :: rest) a w :=
 wpList_plain hgd fun K hK => by
  have hst := run_storeCells_at (P := P) g off T [Value.slice A n c] 0 cur w hg (by simp; omega) (by simp [Value.oneCell'])
  simp only [Nat.add_zero] at hst
  have hst' : ∃ w', (storeVar ty ⟨g, off, none⟩ (.slice A n c)).run P w = .ok () w' ∧ w'.heap[g]? = some (.cells (cur.setIfInBounds off (.slice A n c)) T (0, 0)) ∧ GrownBy w w' (some g) := by
   refine ⟨w.setRow g (cur.toList.take off ++ [Value.slice A n c] ++ cur.toList.drop (off + 1)).toArray, ?_, ?_, GrownBy.setRow _ _ _⟩
   ·simpa [storeVar, hz, Value.cells] using hst
   ·rw [zbx hg]
    congr 2
    apply Array.ext_getElem?
    intro i
    simp only [List.getElem?_toArray, Array.getElem?_setIfInBounds]
    rcases Nat.lt_trichotomy i off with h | h | h
    ·rw [List.append_assoc, List.getElem?_append_left (by simp; omega), List.getElem?_take, if_pos h, if_neg (by omega)]; simp
    ·subst h
     have hm : (cur.toList.take i).length = i := by simp; omega
     rw [List.append_assoc, List.getElem?_append_right (by omega), hm, if_pos rfl, if_pos hl]
     simp
    ·rw [List.getElem?_append_right (by simp; omega), if_neg (by omega), List.getElem?_drop]
     simp
     congr 1
     omega
  obtain ⟨w', h1, h2, h3⟩ := hst'
  unfold Oper.wp execOp
  simp only [ho, hx, hy, Instr.storeAt, Instr.sureAddr, Sem.run_bind, Sem.run_pure, Result.andThen_ok, h1]
  exact hK _ _ (hk w' h2 h3)
def recs (names : List ByteArray) (ys : List Val) (k : Nat) : List (ByteArray × Val) := sortU cmpN ((names.zip ys).take k)
theorem recs_length (names : List ByteArray) (ys : List Val) (k : Nat) : (recs names ys k).length ≤ k := Nat.le_trans (zci _) (by rw [List.length_take]; omega)
theorem recs_name {names : List ByteArray} {ys : List Val} {k : Nat} {z : ByteArray × Val} (h : z ∈ recs names ys k) : z.1 ∈ names.take k := by
 have h1 := zdz h
 obtain ⟨i, hi, e⟩ := List.getElem_of_mem h1
 have h2 : ((names.zip ys).take k)[i]? = some z := by rw [List.getElem?_eq_getElem hi, e]
 rw [List.getElem?_take] at h2
 split at h2
 ·rename_i hk
  have h3 := (List.getElem?_zip_eq_some.1 h2).1
  exact List.mem_of_getElem? (i := i) (by rw [List.getElem?_take, if_pos hk]; exact h3)
 ·cases h2
theorem recs_succ {names : List ByteArray} {ys : List Val} {k : Nat} {nm : ByteArray} {y : Val} (h1 : names[k]? = some nm) (h2 : ys[k]? = some y) : recs names ys (k + 1) = ins cmpN (nm, y) (recs names ys k) := zdh (List.getElem?_zip_eq_some.2 ⟨h1, h2⟩)
theorem cmpN_zero' {x y : ByteArray × Val} : cmpN x y = 0 ↔ x.1 = y.1 := ⟨fun h => zek h, fun h => by unfold cmpN; rw [h]; exact (GoodAt.cmpS _).refl⟩
theorem recs_twice {names : List ByteArray} {ys : List Val} {k : Nat} {nm : ByteArray} {y : Val} (h1 : names[k]? = some nm) (h : ∃ z ∈ recs names ys k, cmpN z (nm, y) = 0) : zbe names ys = (.zero, 13) := by
 obtain ⟨z, hz, h0⟩ := h
 have h2 := recs_name hz
 rw [cmpN_zero'.1 h0] at h2
 unfold zbe
 rw [if_neg]
 intro hnd
 rw [← zb1 h1] at hnd
 exact (List.nodup_append.1 hnd).2.2 nm h2 nm (by simp) rfl
theorem recs_nodup {names : List ByteArray} {ys : List Val} {k : Nat} {nm : ByteArray} {y : Val} (hl : names.length ≤ ys.length) (h1 : names[k]? = some nm) (hn : (names.take k).Nodup) (h : ∀ z ∈ recs names ys k, cmpN z (nm, y) ≠ 0) : (names.take (k + 1)).Nodup := by
 rw [za8 h1, List.nodup_append]
 refine ⟨hn, by simp, fun a ha b hb e => ?_⟩
 simp at hb
 subst hb; subst e
 have hz : ∃ v, (a, v) ∈ (names.zip ys).take k := by
  obtain ⟨i, hi, hia⟩ := List.getElem_of_mem ha
  rw [List.length_take] at hi
  rw [List.getElem_take] at hia
  refine ⟨ys[i]'(by omega), List.mem_of_getElem? (i := i) ?_⟩
  rw [List.getElem?_take, if_pos (by omega), List.getElem?_zip_eq_some]
  exact ⟨by rw [List.getElem?_eq_getElem (by omega), hia], List.getElem?_eq_getElem (by omega)⟩
 obtain ⟨v, hv⟩ := hz
 obtain ⟨z, hz, h0⟩ := sortU_cover (c := cmpN) (fun x => (GoodAt.cmpN x).refl) hv
 exact h z hz (cmpN_zero'.2 (cmpN_zero'.1 h0))
theorem recs_all {names : List ByteArray} {ys : List Val} (hl : names.length = ys.length) (hn : names.Nodup) : zbe names ys = (.mk 6 false 0 empty empty empty ((recs names ys names.length).map (·.2)) ((recs names ys names.length).map (·.1)), 0) := by
 unfold zbe
 rw [if_pos hn, recs, List.take_of_length_le (by rw [List.length_zip]; omega)]
theorem Ins.fin {S S' : Nat → Prop} {w1 wr : World} {O : Nat} {kd : Int} {L : List Val} {M : List ByteArray} (h : Ins S w1 O kd L M wr) (hk : I64 kd) (hl : L.length ≤ LIM) (hm : M.length ≤ LIM) (hs : ∀ s ∈ M, s.size ≤ maxLen) (h1 : ∀ b, S b → S' b) (h2 : ∀ b, w1.heap.size ≤ b → b < wr.heap.size → S' b) :
  ∃ I N : Value, wr.heap[O]? = some (.cells #[.int .i64 kd, .bool false, .int .i64 0, .string ByteArray.empty, .string ByteArray.empty, .string ByteArray.empty, I, N] 46 (0, 0)) ∧
   Val.At S' wr (.mk kd false 0 empty empty empty L M) [.int .i64 kd, .bool false, .int .i64 0, .string ByteArray.empty, .string ByteArray.empty, .string ByteArray.empty, I, N] := by
 obtain ⟨I, N, xs, hO, hI, hN, hf⟩ := h.rows
 refine ⟨I, N, hO, ?_⟩
 have hv := own_vals (S' := S') hI hf hl h1 fun b hb => h2 b (hI.lt b hb).1 (hI.lt b hb).2
 have hn := own_strs (S := S') hN hm hs fun b hb => h2 b (hN.lt b hb).1 (hN.lt b hb).2
 obtain ⟨A, cap, rfl, h3, h4⟩ := hv
 have h0 : empty.size ≤ maxLen := by rw [zab]; decide
 unfold Val.At
 exact ⟨A, cap, N, rfl, ⟨hk, ⟨by omega, by omega⟩, h0, h0, h0⟩, h3, h4, hn⟩
end Go.Proofs.YtbkaffhbhimglaaGreat

/-
  A statement that makes one row of a call's own longer by one, in an order that Go leaves open: operations that come to known values, a row of one, an append. The conditions: none (lemmas).
-/
namespace Go.Proofs.YtbkaffhbhimglaaGreat
open Go.RowKit
section one
variable (v0 : World) (base : Nat) (T : TypeId) (size : Nat) (R : Value) (k : Nat) (xs news : List Value) (vals : List Value)
end one
theorem wp_enter2 {P : Program} {o : Oper} {a : Act} {w : World} {K : Act → World → Prop} {Q : Exit → Act → World → Prop} {Φ : Value → World → Prop} {f : FuncId} {args : Array Value} (hrun : (execOp a.eval o).run P w = .ok (.enter f args) w)
  (hc : Calls P f args w fun e w' => ∃ v, e = .returned v ∧ Φ v w') (hk : ∀ v w', Φ v w' → K (a.put o.dst v) w') : o.wp P a w K Q := by
 unfold Oper.wp
 rw [hrun]
 refine hc.mono ?_
 rintro e w' ⟨v, rfl, hv⟩
 exact hk v w' hv
theorem wp_value2 {P : Program} {o : Oper} {a : Act} {w w' : World} {K : Act → World → Prop} {Q : Exit → Act → World → Prop} {v : Value} (hrun : (execOp a.eval o).run P w = .ok (.value v) w') (hk : K (a.put o.dst v) w') : o.wp P a w K Q := by
 unfold Oper.wp
 rw [hrun]
 exact hk
theorem wp_append_at {P : Program} {o : Oper} {a : Act} {w : World} {K : Act → World → Prop} {Q : Exit → Act → World → Prop} (s x : Operand) (t : TypeId)
  (ho : o.op = .call { callee := .builtin .append, args := #[s, x], argTypes := #[t, t] })
  (base : Nat) (e : TypeId) (i : TypeInfo) (z : Value) (size bytes : Nat) (ht : P.underlying t = some (.slice e)) (hi : P.info? e = some i) (hz : i.zero = some z)
  (hsize : i.size = size) (hby : i.bytes = bytes) (hzs : z.cells.size = size) (hsz : 0 < size)
  (v : Value) (n : Nat) (xs : List Value) (hs : a.eval s = v) (hown : w.ownsRow base e size v n xs)
  (b of m c : Nat) (news : List Value) (hx : a.eval x = .slice (some ⟨b, of, none⟩) m c) (hl : news.length = m * size) (hnews : CellsAt w b of news) (h1 : ∀ u ∈ news, u.oneCell' = true)
  (h63 : n + m ≤ maxLen) (hbytes : (n + m) * bytes ≤ 140737488355328) (hbase : base ≤ w.heap.size)
  (hk : ∀ v' w', w'.ownsRow base e size v' (n + m) (xs ++ news) → GrownBy w w' v.ownBlock → (v'.ownBlock = v.ownBlock ∨ v'.ownBlock = some w.heap.size) → K (a.put o.dst v') w') : o.wp P a w K Q := by
 obtain ⟨v', w', hrun, h2, h3, h4⟩ := zea (P := P) (o := o) (a := a) s x t ho base e i z size bytes ht hi hz hsize hby hzs hsz v n xs hs hown b of m c news hx hl hnews h1 h63 hbytes hbase
 unfold Oper.wp
 rw [hrun]
 exact hk v' w' h2 h3 h4
theorem zb4 {P : Program} {o : Oper} {a : Act} {w : World} {x : Operand} {v : Value} (ho : o.op = .move x) (hv : a.eval x = v) : (execOp a.eval o).run P w = .ok (.value v) w := by
 unfold execOp
 simp [ho, hv]
theorem exec_index {P : Program} {o : Oper} {a : Act} {w : World} {t : TypeId} {x y : Operand} {b off len cap i size : Nat} (ho : o.op = .indexAddr t x y) (hx : a.eval x = .slice (some ⟨b, off, none⟩) len cap) (hy : a.eval y = .int .i64 i) (ht : P.underlying t = some (.slice (P.elem t)))
  (hz : ∀ w, (Go.sizeOf (P.elem t)).run P w = .ok size w) (hi : i < len) : (execOp a.eval o).run P w = .ok (.value (.pointer (some ⟨b, off + i * size, none⟩))) w := by
 unfold execOp
 have h := run_indexAt_slice (P := P) w t ⟨b, off, none⟩ len cap .i64 (i : Int) ht
 rw [if_pos ⟨by omega, by omega⟩, hz w] at h
 have ha : (⟨b, off, none⟩ : Addr).add (i * size) = ⟨b, off + i * size, none⟩ := by
  unfold Addr.add
  by_cases h0 : i * size = 0
  ·rw [h0]; simp
  ·simp [h0]
 simp only [Int.toNat_natCast] at h
 simp [ho, hx, hy, h, ha]
theorem wpList_store_whole {P : Program} {ops : Array Oper} {rest : List Oper} {op : Oper} {a : Act} {w : World} {Q : Exit → Act → World → Prop} (hgd : op.guard = none) (ty : TypeId) (x y : Operand) (ho : op.op = .store ty x y)
  (g : Nat) (hx : a.eval x = .pointer (some ⟨g, 0, none⟩)) (cs : List Value) (hy : a.eval y = .agg cs.toArray) {n : Nat} (hz : ∀ w, (Go.sizeOf ty).run P w = .ok n w) (hn : cs.length = n)
  (T : TypeId) (cur : Array Value) (hg : w.heap[g]? = some (.cells cur T (0, 0))) (hl : cs.length = cur.size) (h1 : ∀ v ∈ cs, v.oneCell' = true)
  (hk : ∀ w', w' = w.setRow g cs.toArray → wpList P ops Q rest (a.put op.dst undef) w') : wpList P ops Q (op :: rest) a w := by
 refine zah hgd ty x y ho g 0 hx cs hy hz hn T cur hg (by omega) h1 (hk _ ?_)
 rw [List.take_zero, List.nil_append, Nat.zero_add, List.drop_eq_nil_of_le (by rw [hl]; simp), List.append_nil]
theorem map_one {f : Operand → Value} {x : Operand} {v : Value} (h : f x = v) : #[x].map f = #[v] := by simp [h]
theorem map_two {f : Operand → Value} {x y : Operand} {v u : Value} (h : f x = v) (k : f y = u) : #[x, y].map f = #[v, u] := by simp [h, k]
theorem zc3 {P : Program} {o : Oper} {a : Act} {w : World} {f : FuncId} {fn : Func} {xs : Array Operand} {ts : Array TypeId} {args : Array Value} (hf : P.funcs[f]? = some fn) (hname : (fn.name == "runtime.NumGoroutine") = false) (hb : fn.body.isNone = false)
  (ho : o.op = .call { callee := .value (.func f), args := xs, argTypes := ts }) (hx : xs.map a.eval = args) : (execOp a.eval o).run P w = .ok (.enter f args) w := by
 have hname' : ¬ fn.name = "runtime.NumGoroutine" := by simpa using hname
 have hb' : ¬ fn.body = none := fun e => by rw [e] at hb; cases hb
 have hc : (callFunc f args).run P w = .ok (.enter f args) w := by
  simp [callFunc, hf, hname', hb']
 unfold execOp
 simp [ho, resolve, invoke, hx, Act.eval, Deferred.ofValue, hc]
theorem zef {P : Program} {o : Oper} {a : Act} {w w1 : World} {K : Act → World → Prop} {Q : Exit → Act → World → Prop} {Φ : Value → World → Prop} {v : Value} (hrun : (execOp a.eval o).run P w = .ok (.value v) w1) (hx : Ext w w1) (hv : Φ v w1) (hk : ∀ v w', Ext w w' → Φ v w' → K (a.put o.dst v) w') : o.wp P a w K Q := by
 unfold Oper.wp
 rw [hrun]
 exact hk v w1 hx hv
theorem zeg {P : Program} {o : Oper} {a : Act} {w : World} {K : Act → World → Prop} {Q : Exit → Act → World → Prop} {Φ : Value → World → Prop} {f : FuncId} {args : Array Value} (hrun : (execOp a.eval o).run P w = .ok (.enter f args) w)
  (hc : Calls P f args w fun e w' => ∃ v, e = .returned v ∧ Ext w w' ∧ Φ v w') (hk : ∀ v w', Ext w w' → Φ v w' → K (a.put o.dst v) w') : o.wp P a w K Q := by
 unfold Oper.wp
 rw [hrun]
 refine hc.mono ?_
 rintro e w' ⟨v, rfl, hx, hv⟩
 exact hk v w' hx hv
end Go.Proofs.YtbkaffhbhimglaaGreat

/-
  A row that a call makes itself, of things that may lie anywhere else: one more, later, as a slice. No function of the program. The conditions: none (definitions and lemmas).
-/
namespace Go.Proofs.YtbkaffhbhimglaaGreat
open Go.RowKit
def OwnL {α : Type} (R : Rep α) (T : TypeId) (base : Nat) (W : World) (v : Value) (l : List α) : Prop :=
 ∃ xs, W.ownsRow base T R.size v l.length xs ∧ R.Flat (fun b => b < W.heap.size ∧ v.ownBlock ≠ some b) W l xs
theorem Ext.cell {w w' : World} (h : Ext w w') {b o : Nat} {v : Value} (k : w.cell? ⟨b, o, none⟩ = some v) : w'.cell? ⟨b, o, none⟩ = some v :=
 (World.cell?_of_block (a := ⟨b, o, none⟩) (h.block b (World.block_lt_of_cell? w _ k))).trans k
section
variable {α : Type} {R : Rep α} {T : TypeId} {base : Nat} {W W' : World} {v v' : Value} {l : List α}
theorem OwnL.nil : OwnL R T base W (.slice none 0 0) [] := ⟨[], World.ownsRow_nil _ _ _ _, rfl⟩
theorem OwnL.ext (h : OwnL R T base W v l) (k : Ext W W') : OwnL R T base W' v l := by
 obtain ⟨xs, h1, h2⟩ := h
 exact ⟨xs, zam h1 k, (Rep.Flat.alike (Alike.of_ext k fun b hb => hb.1) h2).mono fun b hb => ⟨Nat.lt_of_lt_of_le hb.1 k.size, hb.2⟩⟩
theorem OwnL.push {x : α} {xs cs : List Value} (hf : R.Flat (fun b => b < W.heap.size ∧ v.ownBlock ≠ some b) W l xs) (hx : R.At (fun b => b < W.heap.size ∧ v.ownBlock ≠ some b) W x cs) (hg : GrownBy W W' v.ownBlock)
  (ho : W'.ownsRow base T R.size v' (l.length + 1) (xs ++ cs)) (hv : v'.ownBlock = v.ownBlock ∨ v'.ownBlock = some W.heap.size) : OwnL R T base W' v' (l ++ [x]) := by
 have hal : Alike (fun b => b < W.heap.size ∧ v.ownBlock ≠ some b) W W' := fun b hb => hg.block b hb.1 fun e => hb.2 e.symm
 refine ⟨xs ++ cs, by simpa using ho, ?_⟩
 refine Rep.Flat.mono (S := fun b => b < W.heap.size ∧ v.ownBlock ≠ some b) (fun b hb => ⟨Nat.lt_of_lt_of_le hb.1 hg.size, fun e => ?_⟩) (Rep.Flat.snoc (R.alike hx hal) (Rep.Flat.alike hal hf))
 rcases hv with hv | hv
 ·exact hb.2 (hv ▸ e)
 ·rw [hv] at e; injection e with e; have := hb.1; omega
theorem OwnL.rows (h : OwnL R T base W v l) (hl : l.length ≤ LIM) : R.RowsAt (fun b => b < W.heap.size) W l v := by
 obtain ⟨xs, h1, h2⟩ := h
 exact zd3 h1 h2 hl (fun b hb => hb.1) fun b hb => (h1.lt b hb).2
theorem OwnL.shape (h : OwnL R T base W v l) : ∃ A cap, v = .slice A l.length cap := by
 obtain ⟨xs, h1, _⟩ := h
 exact zax h1
theorem OwnL.lt (h : OwnL R T base W v l) : ∀ b, v.ownBlock = some b → base ≤ b ∧ b < W.heap.size := by
 obtain ⟨xs, h1, _⟩ := h
 exact h1.lt
theorem OwnL.low (h : OwnL R T base W v l) {base' : Nat} (hb : base' ≤ base) : OwnL R T base' W v l := by
 obtain ⟨xs, h1, h2⟩ := h
 exact ⟨xs, zd4 h1 hb, h2⟩
end
theorem zbh {α : Type} {P : Program} {ops : Array Oper} {rest : List Oper} {o : Oper} {a : Act} {Q : Exit → Act → World → Prop} (hgd : o.guard = none) (s x : Operand) (t : TypeId)
  (ho : o.op = .call { callee := .builtin .append, args := #[s, x], argTypes := #[t, t] }) (R : Rep α) (base : Nat) (e : TypeId) (i : TypeInfo) (z : Value) (bytes : Nat) (ht : P.underlying t = some (.slice e)) (hi : P.info? e = some i) (hz : i.zero = some z)
  (hsize : i.size = R.size) (hby : i.bytes = bytes) (hzs : z.cells.size = R.size) (v : Value) (l : List α) (W : World) (T' : TypeId) (y : α) (cs : List Value) (hs : a.eval s = v) (hx : a.eval x = .slice (some ⟨W.heap.size, 0, none⟩) 1 1)
  (hown : OwnL R e base W v l) (hy : R.At (fun b => b < W.heap.size ∧ v.ownBlock ≠ some b) W y cs) (h63 : l.length + 1 ≤ maxLen) (hbytes : (l.length + 1) * bytes ≤ 140737488355328) (hbase : base ≤ W.heap.size)
  (h : ∀ v' w', OwnL R e base w' v' (l ++ [y]) → GrownBy W w' v.ownBlock → wpList P ops Q rest (a.put o.dst v') w') : wpList P ops Q (o :: rest) a (W.alloc (.cells cs.toArray T')) := by
 obtain ⟨xs, h1, h2⟩ := hown
 have hx1 : Ext W (W.alloc (.cells cs.toArray T')) := (Ext.refl W).alloc _
 have hal : Alike (fun b => b < W.heap.size ∧ v.ownBlock ≠ some b) W (W.alloc (.cells cs.toArray T')) := Alike.of_ext hx1 fun b hb => hb.1
 have hmo : ∀ b, (b < W.heap.size ∧ v.ownBlock ≠ some b) → (b < (W.alloc (.cells cs.toArray T')).heap.size ∧ v.ownBlock ≠ some b) := fun b hb => ⟨Nat.lt_of_lt_of_le hb.1 hx1.size, hb.2⟩
 refine za1 hgd s x t ho base e i z R.size bytes ht hi hz hsize hby hzs R.pos v l.length xs hs (zam h1 hx1) W.heap.size 0 1 1 cs hx (by rw [R.len hy]; omega) (zap _ _ rfl) (R.one hy) h63 hbytes (Nat.le_trans hbase hx1.size) fun v' w' ho' hg' hb' => ?_
 refine h v' w' (OwnL.push ((Rep.Flat.alike hal h2).mono hmo) (R.mono (R.alike hy hal) hmo) hg' ho' hb') ((GrownBy.of_ext _ hx1).trans hg')
theorem wp_push {α : Type} {P : Program} {o : Oper} {a : Act} {Q : Exit → Act → World → Prop} {K : Act → World → Prop} (s x : Operand) (t : TypeId)
  (ho : o.op = .call { callee := .builtin .append, args := #[s, x], argTypes := #[t, t] }) (R : Rep α) (base : Nat) (e : TypeId) (i : TypeInfo) (z : Value) (bytes : Nat) (ht : P.underlying t = some (.slice e)) (hi : P.info? e = some i) (hz : i.zero = some z)
  (hsize : i.size = R.size) (hby : i.bytes = bytes) (hzs : z.cells.size = R.size) (v : Value) (l : List α) (W : World) (T' : TypeId) (y : α) (cs : List Value) (hs : a.eval s = v) (hx : a.eval x = .slice (some ⟨W.heap.size, 0, none⟩) 1 1)
  (hown : OwnL R e base W v l) (hy : R.At (fun b => b < W.heap.size ∧ v.ownBlock ≠ some b) W y cs) (h63 : l.length + 1 ≤ maxLen) (hbytes : (l.length + 1) * bytes ≤ 140737488355328) (hbase : base ≤ W.heap.size)
  (h : ∀ v' w', OwnL R e base w' v' (l ++ [y]) → GrownBy W w' v.ownBlock → K (a.put o.dst v') w') : o.wp P a (W.alloc (.cells cs.toArray T')) K Q := by
 obtain ⟨xs, h1, h2⟩ := hown
 have hx1 : Ext W (W.alloc (.cells cs.toArray T')) := (Ext.refl W).alloc _
 have hal : Alike (fun b => b < W.heap.size ∧ v.ownBlock ≠ some b) W (W.alloc (.cells cs.toArray T')) := Alike.of_ext hx1 fun b hb => hb.1
 have hmo : ∀ b, (b < W.heap.size ∧ v.ownBlock ≠ some b) → (b < (W.alloc (.cells cs.toArray T')).heap.size ∧ v.ownBlock ≠ some b) := fun b hb => ⟨Nat.lt_of_lt_of_le hb.1 hx1.size, hb.2⟩
 refine wp_append_at s x t ho base e i z R.size bytes ht hi hz hsize hby hzs R.pos v l.length xs hs (zam h1 hx1) W.heap.size 0 1 1 cs hx (by rw [R.len hy]; omega) (zap _ _ rfl) (R.one hy) h63 hbytes (Nat.le_trans hbase hx1.size) fun v' w' ho' hg' hb' => ?_
 refine h v' w' (OwnL.push ((Rep.Flat.alike hal h2).mono hmo) (R.mono (R.alike hy hal) hmo) hg' ho' hb') ((GrownBy.of_ext _ hx1).trans hg')
end Go.Proofs.YtbkaffhbhimglaaGreat

/-
  Entities that are few and small enough: what the statements' own measure says when it says so. The conditions: none beyond the contract's own.
-/
namespace Go.Proofs.YtbkaffhbhimglaaGreat
open Go.RowKit
def zcm (P : Bool → Prop) (w : World) (e : Ending) (w' : World) : Prop := ∃ r : Bool, P r ∧ e = .returned (.bool r) ∧ Ext w w'
theorem zcp {S : Nat → Prop} {w : World} {x : Ent} {cs : List Value} {b o : Nat} (hc : CellsAt w b o cs) (h : entR.At S w x cs) :
  w.cell? ⟨b, o, none⟩ = some (.string x.uid.1) ∧ w.cell? ⟨b, o + 1, none⟩ = some (.string x.uid.2) ∧ CellsAt w b o [.string x.uid.1, .string x.uid.2] ∧ FitU x.uid ∧
  (∃ pv, w.cell? ⟨b, o + 2, none⟩ = some pv ∧ uidR.RowsAt S w x.ps pv) ∧ ∃ acs, CellsAt w b (o + 3) acs ∧ Val.At S w x.av acs ∧ acs.length = 8 := by
 obtain ⟨pv, acs, rfl, hf, hp, ha⟩ := h
 have h0 := hc 0 _ rfl
 have h1 := hc 1 _ rfl
 have h2 := hc 2 _ rfl
 refine ⟨h0, h1, fun j u hj => ?_, hf, ⟨pv, h2, hp⟩, acs, hc.part (k := 3) fun j u hj => ?_, ha, ha.length⟩
 ·match j, hj with
  | 0, hj => injection hj with hj; subst hj; exact h0
  | 1, hj => injection hj with hj; subst hj; exact h1
  | j + 2, hj => simp at hj
 ·rw [Nat.add_comm]; exact hj
end Go.Proofs.YtbkaffhbhimglaaGreat

/-
  What the program's places come to: a map from names to where they stand first. The conditions: the entities lie in memory as they should.
-/
namespace Go.Proofs.YtbkaffhbhimglaaGreat
open Go.RowKit
open Lib renaming hid → q_
set_option maxRecDepth 100000
set_option maxHeartbeats 800000
theorem zas {w w1 w2 : World} {r : Option Nat} (h : Ext w w1) (k : GrownBy w1 w2 r) (hr : ∀ b, r = some b → w.heap.size ≤ b) : Ext w w2 :=
 ⟨⟨k.os.trans h.os, k.tape.trans h.tape, k.output.trans h.output, Nat.le_trans h.size k.size, fun i hi => (k.block i (Nat.lt_of_lt_of_le hi h.size) (fun e => by have := hr i e.symm; omega)).trans (h.block i hi)⟩, Nat.le_trans h.drawn k.drawn⟩
theorem idx_take_full {us : List Uid} {k : Nat} (h : us.length ≤ k) (y : Uid) : idx (us.take k) y = idx us y := by rw [List.take_of_length_le h]
theorem places_ok (S : Nat → Prop) (l : List Ent) (v : Value) (w : World) (hS : ∀ b, S b → b < w.heap.size) (hl : entR.RowsAt S w l v) (hlen : l.length ≤ 1048576) :
  Calls Tryz.prog 48 #[v] w fun e w' => ∃ b, e = .returned (.map (some b)) ∧ MapU w' b (idx (l.map Ent.uid)) (dis (l.map Ent.uid) l.length) ∧ w.heap.size ≤ b ∧ Ext w w' := by
 obtain ⟨A, cap, rfl, ⟨hl0, hl1, hl2⟩, hlr⟩ := hl
 rw [zak] at hl0
 rw [zab] at hl2
 have HS := q_ hS
 have HL := q_ hlr
 clear hS hlr
 have hmm := @run_makeMap Tryz.prog
 go_enter Tryz.func48, Tryz.ntmps48
 go_wp2_with fail
 have M0 := q_ (MapU.made w)
 have X0 := q_ ((Ext.refl w).alloc (.map #[] 0))
 go_loopw [11] (fun i wr => ∃ k : Nat, k ≤ l.length ∧ i = .int .i64 k ∧ Hid (Ext w wr) ∧ Hid (MapU wr w.heap.size (idx ((l.map Ent.uid).take k)) (dis (l.map Ent.uid) k))) (fun i _ => l.length - (intOf i).toNat)
 case atStart => exact ⟨0, Nat.zero_le _, rfl, X0, q_ (M0.out.congr fun u => rfl)⟩
 case round =>
  obtain ⟨k, hk, rfl, HX, HM⟩ := hrel
  clear M0 X0
  by_cases hlt : k < l.length
  ·obtain ⟨b, o, rfl, hSb, hrow⟩ := HL.out (by omega)
   obtain ⟨x, hx⟩ : ∃ x, l[k]? = some x := ⟨_, List.getElem?_eq_getElem hlt⟩
   obtain ⟨cs, hca, hxa⟩ := hrow k x hx
   have Hca := q_ (hca.alike hSb (Alike.of_ext HX.out HS.out))
   have Hx := q_ (show (l.map Ent.uid)[k]? = some x.uid by simp [hx])
   have Hu := q_ (show FitU x.uid by obtain ⟨_, _, _, h, _⟩ := hxa; exact h)
   have Hm := q_ (fun y => idx_take_succ (us := l.map Ent.uid) (y := y) Hx.out)
   have Hd := q_ (dis_succ Hx.out)
   obtain ⟨A1, l1, c1, q1, q2, q3, q4, q5, q6, A2, l2, c2, A3, l3, c3, rfl⟩ := zdj hxa
   clear hx hxa hca hrow hSb
   cases hi : idx ((l.map Ent.uid).take k) x.uid with
   | some j =>
    have Hi := q_ hi
    clear hi
    go_wp2_with (first | refine zac rfl 49 _ rfl b (o + k * 11) rfl za0 zau rfl Hca.out ?_ | (at_lookup; refine zbu rfl _ _ rfl w.heap.size _ _ rfl (HM.out.ext ((Ext.refl wr).alloc _)) x.uid Hu.out rfl true (by rw [Hi.out]; rfl) ?_; intro c hc hcl; clear hc))
    have hrel : MapU (wr.alloc (.cells #[.string x.uid.1, .string x.uid.2, .slice A1 l1 c1, .int .i64 q1, .bool q2, .int .i64 q3, .string q4, .string q5, .string q6, .slice A2 l2 c2, .slice A3 l3 c3] 49)) w.heap.size (idx ((l.map Ent.uid).take (k + 1))) (dis (l.map Ent.uid) (k + 1)) := by
     rw [Hd.out, Hi.out]
     refine (HM.out.ext ((Ext.refl wr).alloc _)).congr fun y => ?_
     rw [Hm.out y]
     cases hy : idx ((l.map Ent.uid).take k) y with
     | some i => rfl
     | none => rw [if_neg (by simp), if_neg fun e => by rw [e, Hi.out] at hy; cases hy]
    go_roundw
    case rel => exact ⟨k + 1, by omega, by go_num, q_ (HX.out.alloc _), q_ hrel⟩
    case measure => simp [intOf]; omega
   | none =>
    have Hi := q_ hi
    have hdl := dis_le (l.map Ent.uid) k
    clear hi
    go_wp2_with (first | refine zac rfl 49 _ rfl b (o + k * 11) rfl za0 zau rfl Hca.out ?_ | (at_lookup; refine zbu rfl _ _ rfl w.heap.size _ _ rfl (HM.out.ext ((Ext.refl wr).alloc _)) x.uid Hu.out rfl false (by rw [Hi.out]; rfl) ?_; intro c hc hcl; clear hc) | (at_mapUpdate; refine wpList_update_uid rfl _ _ _ rfl w.heap.size _ _ rfl (HM.out.ext ((Ext.refl wr).alloc _)) (by omega) x.uid Hu.out rfl k (by omega) rfl ?_; intro w2 hm2 hg2))
    have hrel : MapU w2 w.heap.size (idx ((l.map Ent.uid).take (k + 1))) (dis (l.map Ent.uid) (k + 1)) := by
     rw [Hd.out]
     refine hm2.congr fun y => ?_
     rw [Hm.out y]
     by_cases hy : y = x.uid
     ·subst hy
      rw [if_pos rfl, Hi.out]; simp
     ·rw [if_neg hy, if_neg hy]
      cases hz : idx ((l.map Ent.uid).take k) y <;> simp
    have hext := zas (HX.out.alloc _) hg2 (fun b e => by injection e with e; omega)
    go_roundw
    case rel => exact ⟨k + 1, by omega, by go_num, q_ hext, q_ hrel⟩
    case measure => simp [intOf]; omega
  ·have hke : k = l.length := by omega
   subst hke
   have hfull := HM.out.congr (fun y => idx_take_full (us := l.map Ent.uid) (by simp) y)
   have HF := q_ hfull
   clear hfull
   go_wp2_with fail
   go_ret
   exact ⟨_, rfl, HF.out, Nat.le_refl _, HX.out⟩
end Go.Proofs.YtbkaffhbhimglaaGreat

/-
  Compaction of a row of things of one kind, in its midst. No function of the program. The conditions: none (definitions and lemmas).
-/
namespace Go.Proofs.YtbkaffhbhimglaaGreat
open Go.RowKit
/-! ### rows of k cells -/
theorem zb7 {sz : Nat} : ∀ {rows : List (List Value)} {i j : Nat} {cs : List Value} {v : Value}, (∀ r ∈ rows, r.length = sz) → rows[i]? = some cs → cs[j]? = some v → rows.flatten[i * sz + j]? = some v
 | [], _, _, _, _, _, h, _ => by simp at h
 | r :: rs, 0, j, cs, v, hl, h, hj => by
  simp at h; subst h
  rw [List.flatten_cons, List.getElem?_append_left (by simpa using (List.getElem?_eq_some_iff.1 hj).1)]
  simpa using hj
 | r :: rs, i + 1, j, cs, v, hl, h, hj => by
  have h8 := hl r (by simp)
  rw [List.flatten_cons, List.getElem?_append_right (by rw [Nat.succ_mul]; omega), show (i + 1) * sz + j - r.length = i * sz + j by rw [Nat.succ_mul]; omega]
  exact zb7 (fun x hx => hl x (by simp [hx])) (by simpa using h) hj
theorem zcq {sz : Nat} : ∀ {rows : List (List Value)}, (∀ r ∈ rows, r.length = sz) → rows.flatten.length = rows.length * sz
 | [], _ => by simp
 | r :: rs, hl => by
  have h8 := hl r (by simp)
  rw [List.flatten_cons, List.length_append, zcq fun x hx => hl x (by simp [hx]), List.length_cons, Nat.succ_mul]
  omega
theorem flatten_setK {sz : Nat} : ∀ {rows : List (List Value)} {i : Nat} {cs : List Value}, (∀ r ∈ rows, r.length = sz) → i < rows.length → cs.length = sz →
  rows.flatten.take (i * sz) ++ cs ++ rows.flatten.drop (i * sz + sz) = (rows.set i cs).flatten
 | [], _, _, _, h, _ => by simp at h
 | r :: rs, 0, cs, hl, _, hc => by
  have h8 := hl r (by simp)
  simp [h8]
 | r :: rs, i + 1, cs, hl, h, hc => by
  have h8 := hl r (by simp)
  have ih := flatten_setK (rows := rs) (i := i) (cs := cs) (fun x hx => hl x (by simp [hx])) (by simpa using h) hc
  rw [List.set_cons_succ, List.flatten_cons, List.flatten_cons, ← ih]
  rw [List.take_append, List.drop_append, List.take_of_length_le (by rw [Nat.succ_mul]; omega), List.drop_eq_nil_iff.2 (by rw [Nat.succ_mul]; omega), show (i + 1) * sz - r.length = i * sz by rw [Nat.succ_mul]; omega, show (i + 1) * sz + sz - r.length = i * sz + sz by rw [Nat.succ_mul]; omega]
  simp
theorem flatten_takeK {sz : Nat} : ∀ {rows : List (List Value)} {k : Nat}, (∀ r ∈ rows, r.length = sz) → (rows.take k).flatten = rows.flatten.take (k * sz)
 | [], _, _ => by simp
 | r :: rs, 0, _ => by simp
 | r :: rs, k + 1, hl => by
  have h8 := hl r (by simp)
  rw [List.take_succ_cons, List.flatten_cons, List.flatten_cons, flatten_takeK (rows := rs) (k := k) fun x hx => hl x (by simp [hx]), List.take_append, List.take_of_length_le (l := r) (by rw [Nat.succ_mul]; omega), show (k + 1) * sz - r.length = k * sz by rw [Nat.succ_mul]; omega]
theorem rows_ofK {sz : Nat} : ∀ (n : Nat) (l : List Value), l.length = n * sz → ∃ rows : List (List Value), rows.length = n ∧ (∀ r ∈ rows, r.length = sz) ∧ rows.flatten = l
 | 0, l, h => ⟨[], rfl, by simp, by have : l = [] := List.eq_nil_of_length_eq_zero (by simpa using h); simp [this]⟩
 | n + 1, l, h => by
  rw [Nat.succ_mul] at h
  obtain ⟨rows, h1, h2, h3⟩ := rows_ofK (sz := sz) n (l.drop sz) (by simp; omega)
  refine ⟨l.take sz :: rows, by simp [h1], fun r hr => ?_, by simp [h3]⟩
  rcases List.mem_cons.1 hr with rfl | hr
  ·simp; omega
  ·exact h2 r hr
structure MidG {α : Type} (R : Rep α) (c : α → α → Int) (S : Nat → Prop) (w : World) (g cap : Nat) (T : TypeId) (l : List α) (n0 kk q : Nat) (wr : World) : Prop where
 grown : GrownBy w wr (some g)
 len : (zbo c (l.take (n0 + q + 1))).length = kk
 le : kk ≤ n0 + q
 rows : ∃ rows : List (List Value), wr.heap[g]? = some (.cells rows.flatten.toArray T (0, 0)) ∧ rows.length = cap ∧ (∀ r ∈ rows, r.length = R.size) ∧
  (∀ (i : Nat) (x : α), (zbo c (l.take (n0 + q + 1)))[i]? = some x → ∃ cs, rows[i]? = some cs ∧ R.At S w x cs) ∧ (∀ (i : Nat) (x : α), n0 + q ≤ i → l[i]? = some x → ∃ cs, rows[i]? = some cs ∧ R.At S w x cs)
theorem MidG.ext {α : Type} {R : Rep α} {c : α → α → Int} {S : Nat → Prop} {w wr w' : World} {g cap : Nat} {T : TypeId} {l : List α} {n0 kk q : Nat} (h : MidG R c S w g cap T l n0 kk q wr) (k : Ext wr w') : MidG R c S w g cap T l n0 kk q w' := by
 obtain ⟨rows, h1, h2⟩ := h.rows
 exact ⟨h.grown.trans (GrownBy.of_ext _ k), h.len, h.le, rows, (k.block _ (zad h1)).trans h1, h2⟩
theorem MidG.alike {α : Type} {R : Rep α} {c : α → α → Int} {S : Nat → Prop} {w wr : World} {g cap : Nat} {T : TypeId} {l : List α} {n0 kk q : Nat} (h : MidG R c S w g cap T l n0 kk q wr) (hS : ∀ b, S b → b < w.heap.size) (hg : ¬ S g) : Alike S w wr :=
 fun b hb => h.grown.block b (hS b hb) (fun e => by injection e with e; subst e; exact hg hb)
theorem MidG.old {α : Type} {R : Rep α} {c : α → α → Int} {S : Nat → Prop} {w wr : World} {g cap : Nat} {T : TypeId} {l : List α} {n0 kk q : Nat} {x y : α} (h : MidG R c S w g cap T l n0 kk q wr) (hx : l[n0 + q]? = some x) (hy : l[n0 + q + 1]? = some y) (h0 : c y x = 0) :
  MidG R c S w g cap T l n0 kk (q + 1) wr := by
 have hd : zbo c (l.take (n0 + q + 1 + 1)) = zbo c (l.take (n0 + q + 1)) := by rw [zbj hx hy, if_pos h0, List.append_nil]
 obtain ⟨rows, h1, h2, h3, h4, h5⟩ := h.rows
 refine ⟨h.grown, ?_, by have := h.le; omega, rows, h1, h2, h3, ?_, fun i z hi => h5 i z (by omega)⟩
 ·rw [show n0 + (q + 1) + 1 = n0 + q + 1 + 1 by omega, hd]; exact h.len
 ·rw [show n0 + (q + 1) + 1 = n0 + q + 1 + 1 by omega, hd]; exact h4
theorem MidG.new {α : Type} {R : Rep α} {c : α → α → Int} {S : Nat → Prop} {w wr : World} {g cap : Nat} {T : TypeId} {l : List α} {n0 kk q : Nat} {x y : α} {cur : Array Value} {cs : List Value} (h : MidG R c S w g cap T l n0 kk q wr) (hx : l[n0 + q]? = some x) (hy : l[n0 + q + 1]? = some y) (h0 : c y x ≠ 0)
  (hcur : wr.heap[g]? = some (.cells cur T (0, 0))) (hcs : R.At S w y cs) (hcap : l.length ≤ cap) :
  MidG R c S w g cap T l n0 (kk + 1) (q + 1) (wr.setRow g (cur.toList.take (kk * R.size) ++ cs ++ cur.toList.drop (kk * R.size + cs.length)).toArray) := by
 have hd : zbo c (l.take (n0 + q + 1 + 1)) = zbo c (l.take (n0 + q + 1)) ++ [y] := by rw [zbj hx hy, if_neg h0]
 obtain ⟨rows, h1, h2, h3, h4, h5⟩ := h.rows
 rw [h1] at hcur
 injection hcur with hcur
 injection hcur with hcur
 subst hcur
 have hle := h.le
 have hyl : n0 + q + 1 < l.length := (List.getElem?_eq_some_iff.1 hy).1
 have h8 := R.len hcs
 have hk : kk < rows.length := by omega
 have hset : (rows.flatten.toArray.toList.take (kk * R.size) ++ cs ++ rows.flatten.toArray.toList.drop (kk * R.size + cs.length)) = (rows.set kk cs).flatten := by
  rw [h8]; simpa using flatten_setK h3 hk h8
 rw [hset]
 refine ⟨h.grown.trans (GrownBy.setRow _ _ _), ?_, by omega, rows.set kk cs, zbx h1 _, by simpa using h2, fun r hr => ?_, fun i z hi => ?_, fun i z hi hz => ?_⟩
 ·rw [show n0 + (q + 1) + 1 = n0 + q + 1 + 1 by omega, hd, List.length_append, h.len]; rfl
 ·rcases List.mem_or_eq_of_mem_set hr with hr | rfl
  ·exact h3 r hr
  ·exact h8
 ·rw [show n0 + (q + 1) + 1 = n0 + q + 1 + 1 by omega, hd] at hi
  by_cases hik : i < kk
  ·rw [List.getElem?_append_left (by rw [h.len]; exact hik)] at hi
   obtain ⟨c, hc, hat⟩ := h4 i z hi
   exact ⟨c, by rw [List.getElem?_set_ne (by omega)]; exact hc, hat⟩
  ·rw [List.getElem?_append_right (by rw [h.len]; omega), h.len] at hi
   have : i = kk := by
    have := (List.getElem?_eq_some_iff.1 hi).1
    simp at this; omega
   subst this
   simp at hi; subst hi
   exact ⟨cs, by rw [List.getElem?_set_self hk], hcs⟩
 ·obtain ⟨c, hc, hat⟩ := h5 i z (by omega) hz
  exact ⟨c, by rw [List.getElem?_set_ne (by omega)]; exact hc, hat⟩
theorem MidG.finish {α : Type} {R : Rep α} {c : α → α → Int} {S : Nat → Prop} {w wr w' : World} {base g cap : Nat} {T : TypeId} {l : List α} {n0 kk q : Nat} (h : MidG R c S w g cap T l n0 kk q wr) (hq : n0 + q + 1 = l.length) (hg : base ≤ g) (hcap : l.length ≤ cap) (hcm : cap ≤ maxLen)
  (hgl : g < w.heap.size) (hS : ∀ b, S b → base ≤ b ∧ b < w.heap.size ∧ b ≠ g) (zs : List Value) (hz : zs.length = (l.length - kk) * R.size) {cur : Array Value} (hcur : wr.heap[g]? = some (.cells cur T (0, 0)))
  (hw : w' = wr.setRow g (cur.toList.take (kk * R.size) ++ zs ++ cur.toList.drop (kk * R.size + zs.length)).toArray) :
  ∃ xs', w'.ownsRow base T R.size (.slice (some ⟨g, 0, none⟩) kk cap) (zbo c l).length xs' ∧ R.Flat (Made base w' (.slice (some ⟨g, 0, none⟩) kk cap)) w' (zbo c l) xs' ∧ Below base w w' ∧ w.drawn ≤ w'.drawn := by
 have hgr := h.grown
 obtain ⟨rows, h1, h2, h3, h4, h5⟩ := h.rows
 have hlen := h.len
 have hle := h.le
 rw [hq, List.take_length] at hlen h4
 rw [h1] at hcur
 injection hcur with hcur
 injection hcur with hcur
 subst hcur
 have hgr' : GrownBy w w' (some g) := by rw [hw]; exact hgr.trans (GrownBy.setRow _ _ _)
 have hh := zbx h1 (rows.flatten.toArray.toList.take (kk * R.size) ++ zs ++ rows.flatten.toArray.toList.drop (kk * R.size + zs.length)).toArray
 rw [← hw] at hh
 have hfl := zcq h3
 have m1 : kk * R.size ≤ l.length * R.size := Nat.mul_le_mul_right _ (by omega)
 have m2 : l.length * R.size ≤ cap * R.size := Nat.mul_le_mul_right _ hcap
 rw [Nat.sub_mul] at hz
 rw [h2] at hfl
 refine ⟨rows.flatten.take (kk * R.size), ⟨by rw [List.length_take, hfl, hlen]; omega, .inr ⟨g, cap, _, by rw [hlen], hg, hh, by omega, hcm, ?_, ?_⟩⟩, ?_, ⟨hgr'.os, hgr'.tape, hgr'.output, hgr'.size, fun b hb => hgr'.block b ?_ ?_⟩, hgr'.drawn⟩
 ·simp only [List.size_toArray, List.length_append, List.length_take, List.length_drop, hfl, hz]; omega
 ·rw [hlen]
  dsimp only
  rw [List.append_assoc, List.take_append_of_le_length (by rw [List.length_take, hfl]; omega), List.take_of_length_le (by rw [List.length_take, hfl]; omega)]
 ·rw [← flatten_takeK h3]
  have hal : Alike S w w' := fun b hb => hgr'.block b (hS b hb).2.1 (fun e => by injection e with e; exact (hS b hb).2.2 e)
  have key : ∀ (d : List α) (rs : List (List Value)), rs.length = d.length → (∀ (i : Nat) (x : α), d[i]? = some x → ∃ cs, rs[i]? = some cs ∧ R.At S w x cs) → R.Flat S w' d rs.flatten := by
   intro d
   induction d with
   | nil => intro rs hr _; have : rs = [] := List.eq_nil_of_length_eq_zero hr; subst this; rfl
   | cons x r ih =>
    intro rs hr hd
    cases rs with
    | nil => simp at hr
    | cons c cs =>
     obtain ⟨c', hc', hat⟩ := hd 0 x rfl
     simp at hc'; subst hc'
     exact ⟨c, cs.flatten, by simp, R.alike hat hal, ih cs (by simpa using hr) fun i y hy => by simpa using hd (i + 1) y (by simpa using hy)⟩
  refine (key (zbo c l) (rows.take kk) (by rw [List.length_take, hlen]; omega) fun i x hi => ?_).mono fun b hb => ⟨(hS b hb).1, Nat.lt_of_lt_of_le (hS b hb).2.1 hgr'.size, fun e => (hS b hb).2.2 (by injection e with e; exact e.symm)⟩
  have hik : i < kk := by rw [← hlen]; exact (List.getElem?_eq_some_iff.1 hi).1
  rw [List.getElem?_take, if_pos hik]
  exact h4 i x hi
 ·omega
 ·intro e; injection e with e; omega
end Go.Proofs.YtbkaffhbhimglaaGreat

/-
  The library's functions on rows of names: which one stands first, a copy, compaction; '==' of two names. The conditions: none beyond each contract's own.
-/
namespace Go.Proofs.YtbkaffhbhimglaaGreat
open Go.RowKit
open Lib renaming hid → q_
set_option maxRecDepth 100000
set_option maxHeartbeats 1600000
theorem zcr (x y : Uid) (w : World) : (Op.equalIn 10000 43 (valU x) (valU y)).run Tryz.prog w = .ok (decide (x = y)) w := by
 have hS : Tryz.prog.underlying 43 = some (.struct (Tryz.prog.fieldsOf 43)) := by kernel_rfl
 have hp : Tryz.prog.stoodInHeld 43 = false := by kernel_rfl
 have u9 := Tryz.underlying9
 have a9 := Tryz.agg9
 have z9 : ∀ w, (Go.sizeOf 9).run Tryz.prog w = .ok 1 w := fun _ => by kernel_rfl
 unfold valU
 rw [show (10000 : Nat) = 9999 + 1 from rfl, run_equalIn_agg w 9999 _ _ _ hS hp]
 simp only [Program.fieldsOf, Tryz.underlying43]
 go_simp
 by_cases h1 : x.1 = y.1
 ·by_cases h2 : x.2 = y.2
  ·have : x = y := Prod.ext h1 h2
   simp [this]
  ·have : x ≠ y := fun e => h2 (by rw [e])
   have h3 : x.2.toList ≠ y.2.toList := fun e => h2 (zbs e)
   simp [h1, h3, this]
 ·have : x ≠ y := fun e => h1 (by rw [e])
  have h3 : x.1.toList ≠ y.1.toList := fun e => h1 (zbs e)
  simp [h3, this]
theorem eqlU (x y : Uid) (w : World) : (binOp .eql 43 (valU x) (valU y)).run Tryz.prog w = .ok (.bool (decide (x = y))) w := by
 have h := zcr x y w
 unfold valU at h ⊢
 rw [run_eql_struct, h]; rfl
theorem neqU (x y : Uid) (w : World) : (binOp .neq 43 (valU x) (valU y)).run Tryz.prog w = .ok (.bool (!decide (x = y))) w := by
 have h := zcr x y w
 unfold valU at h ⊢
 rw [run_neq_struct, h]; rfl
theorem guardU (op : BinOp) (p q : Operand) (x y : Uid) (w : World) : (eqGuard op 43 p q (valU x) (valU y)).run Tryz.prog w = .ok () w := run_eqGuard_agg w op _ p q _ _ (by kernel_rfl)
theorem indexFunc_okU (g : Nat) (cb : Array Value) (p : Uid → Bool) (S : Nat → Prop) (l : List Uid) (v : Value) (w : World) (eg : ∀ args w, (callFunc g args).run Tryz.prog w = .ok (.enter g args) w)
  (hS : ∀ b, S b → b < w.heap.size) (hl : uidR.RowsAt S w l v)
  (hc : ∀ x ∈ l, FitU x → ∀ (w1 : World), Ext w w1 → Calls Tryz.prog g (#[valU x] ++ cb) w1 fun e w' => e = .returned (.bool (p x)) ∧ Ext w1 w') :
  Calls Tryz.prog 61 #[v, .func (.func g) #[] cb] w fun e w' => e = .returned (.int .i64 (pos (fidx p l))) ∧ Ext w w' := by
 obtain ⟨A, cap, rfl, ⟨hl0, hl1, hl2⟩, hlr⟩ := hl
 rw [zak] at hl0
 rw [zab] at hl2
 have HL := q_ hlr
 have HS := q_ hS
 have HC := q_ hc
 clear hlr hS hc
 go_enter Tryz.func61, Tryz.ntmps61
 go_wp2_with fail
 go_loopw [8] (fun i wr => ∃ k : Nat, k ≤ l.length ∧ i = .int .i64 k ∧ Ext w wr ∧ Hid (∀ i x, i < k → l[i]? = some x → p x = false)) (fun i _ => l.length - (intOf i).toNat)
 case atStart => exact ⟨0, Nat.zero_le _, rfl, Ext.refl w, fun _ _ h => by omega⟩
 case round =>
  obtain ⟨k, hk, rfl, hext, Hall⟩ := hrel
  have HX := q_ hext
  clear hext
  by_cases hlt : k < l.length
  ·obtain ⟨b, o, rfl, hSb, hrow⟩ := HL.out (by omega)
   obtain ⟨x, hx⟩ : ∃ x, l[k]? = some x := ⟨_, List.getElem?_eq_getElem hlt⟩
   obtain ⟨cs, hca, rfl, hfit⟩ := hrow k x hx
   have Hca := q_ (hca.alike hSb (Alike.of_ext HX.out HS.out))
   have Hx := q_ hx
   have hgen := HC.out x (List.mem_of_getElem? hx) hfit wr HX.out
   generalize hpx : p x = px at *
   have HP := q_ hpx
   have HG := q_ hgen
   clear hx hca hrow hSb hpx hgen hfit
   go_wp2_with (first | refine zac rfl 43 _ rfl b (o + k * 2) rfl zb8 zbk rfl Hca.out ?_)
   refine HG.out.mono ?_
   rintro e w' ⟨rfl, hx2⟩
   have HX2 := q_ hx2
   clear hx2
   cases px
   ·go_wp2_with fail
    go_roundw
    case rel => exact ⟨k + 1, by omega, by go_num, HX.out.trans HX2.out, fun i y hi hy => by
     by_cases hik : i = k
     ·subst hik; rw [Hx.out] at hy; cases hy; exact HP.out
     ·exact Hall.out i y (by omega) hy⟩
    case measure => simp [intOf]; omega
   ·go_wp2_with fail
    go_ret
    exact ⟨zag (by rw [zbl Hx.out HP.out Hall.out]; rfl), HX.out.trans HX2.out⟩
  ·go_wp2_with fail
   go_ret
   have hke : k = l.length := by omega
   subst hke
   exact ⟨zag (by rw [zby Hall.out]; rfl), HX.out⟩
theorem containsFunc_okU (g : Nat) (cb : Array Value) (p : Uid → Bool) (S : Nat → Prop) (l : List Uid) (v : Value) (w : World) (eg : ∀ args w, (callFunc g args).run Tryz.prog w = .ok (.enter g args) w)
  (hS : ∀ b, S b → b < w.heap.size) (hl : uidR.RowsAt S w l v)
  (hc : ∀ x ∈ l, FitU x → ∀ (w1 : World), Ext w w1 → Calls Tryz.prog g (#[valU x] ++ cb) w1 fun e w' => e = .returned (.bool (p x)) ∧ Ext w1 w') :
  Calls Tryz.prog 31 #[v, .func (.func g) #[] cb] w fun e w' => e = .returned (.bool (l.any p)) ∧ Ext w w' := by
 have hi := indexFunc_okU g cb p S l v w eg hS hl hc
 rw [← zch]
 cases hf : fidx p l with
 | none =>
  rw [hf] at hi
  have HI := q_ hi
  clear hi hc hS hl hf eg
  go_enter Tryz.func31, Tryz.ntmps31
  go_wp2_with (go_at_call 61; refine HI.out.mono ?_; rintro e w' ⟨rfl, hx2⟩; have HX2 := q_ hx2; clear hx2)
  go_ret
  exact ⟨rfl, HX2.out⟩
 | some i =>
  rw [hf] at hi
  have HI := q_ hi
  clear hi hc hS hl hf eg
  go_enter Tryz.func31, Tryz.ntmps31
  go_wp2_with (go_at_call 61; refine HI.out.mono ?_; rintro e w' ⟨rfl, hx2⟩; have HX2 := q_ hx2; clear hx2)
  go_ret
  exact ⟨zal (by simp [pos]), HX2.out⟩
theorem zei : (Tryz.prog.info? 43).map (fun i => (i.zero, i.size, i.bytes)) = some (some (.agg #[.string ByteArray.empty, .string ByteArray.empty]), 2, 32) := by kernel_rfl
theorem za7 {S S' : Nat → Prop} {w w' : World} : ∀ {l : List Uid} {xs : List Value}, uidR.Flat S w l xs → uidR.Flat S' w' l xs
 | [], _, h => h
 | _ :: _, _, ⟨c, ys, e, hv, hr⟩ => ⟨c, ys, e, hv, za7 hr⟩
theorem rows_src {α : Type} {R : Rep α} {S : Nat → Prop} {w : World} {l : List α} {A : Option Addr} {n cap : Nat} (h : R.RowsAt S w l (.slice A n cap)) : n = l.length ∧ ∃ xs, R.Flat S w l xs ∧ SrcAt w A l.length xs := by
 obtain ⟨A', cap', e, _, h1⟩ := h
 injection e with e1 e2 e3
 subst e1 e2 e3
 refine ⟨rfl, ?_⟩
 by_cases hn : 0 < l.length
 ·obtain ⟨b, o, rfl, hs, hr⟩ := h1 hn
  obtain ⟨xs, h2, h3⟩ := hr.flat
  exact ⟨xs, h2, fun _ => ⟨b, o, rfl, h3⟩⟩
 ·have : l = [] := List.eq_nil_of_length_eq_zero (by omega)
  subst this
  exact ⟨[], rfl, fun h => by simp at h⟩
def ClonedU (l : List Uid) (w : World) (e : Ending) (w' : World) : Prop := ∃ v' xs, e = .returned v' ∧ w'.ownsRow w.heap.size 43 2 v' l.length xs ∧ (∀ S' w', uidR.Flat S' w' l xs) ∧ Ext w w'
theorem cloneU_ok (S : Nat → Prop) (l : List Uid) (v : Value) (w : World) (hl : uidR.RowsAt S w l v) :
  Calls Tryz.prog 50 #[v] w (ClonedU l w) := by
 have hl' := hl
 obtain ⟨A, cap, rfl, ⟨hl0, hl1, hl2⟩, hlr⟩ := hl
 obtain ⟨_, xs, hf, hsrc⟩ := rows_src hl'
 rw [zak] at hl0
 rw [zab] at hl2
 have HF : Hid (∀ S' w', uidR.Flat S' w' l xs) := q_ fun S' w' => za7 hf
 have Hsrc := q_ hsrc
 have HL := q_ (hf.length)
 have H1 := q_ hf.one
 have q58 := fun (w : World) (a : Option Addr) (n c n' c' : Nat) => Lib.run_eql_slice_nil (P := Tryz.prog) w 47 43 a n c n' c' Tryz.underlying47
 obtain ⟨i0, hi, hz0, hz1, hz2⟩ := info_parts zei
 clear hl' hlr hf hsrc
 cases A with
 | none =>
  have hn : l = [] := by
   cases l with
   | nil => rfl
   | cons x r => obtain ⟨b, o, h, _⟩ := Hsrc.out (by simp); cases h
  subst hn
  go_enter Tryz.func50, Tryz.ntmps50
  go_wp2_with fail
  go_ret
  exact ⟨_, [], rfl, World.ownsRow_nil _ _ _ _, fun _ _ => rfl, Ext.refl w⟩
 | some a =>
  go_enter Tryz.func50, Tryz.ntmps50
  go_wp2_with (at_builtin; refine za9 rfl (.tmp 5) (.tmp 6) 47 rfl w.heap.size 43 i0 _ 2 32 Tryz.underlying47 hi hz0 hz1 hz2 rfl (by decide) _ 0 [] rfl (World.ownsRow_made w #[] 0 (Nat.le_refl _) (Nat.zero_le _) (by simp)) (some a) l.length cap xs rfl HL.out ?q1 H1.out ?q2 ?q3 ?q4 ?_)
  case q1 => exact fun h => let ⟨b, o, e, hc⟩ := Hsrc.out h; ⟨b, o, e, hc.alike (S := fun x => x < w.heap.size) (by
   have h0 : 0 < xs.length := by rw [HL.out]; exact Nat.mul_pos h (by decide)
   have := hc 0 xs[0] (List.getElem?_eq_getElem h0)
   exact block_lt_of_cell this) (Alike.of_ext ((Ext.refl w).alloc _) fun _ h => h)⟩
  case q2 => rw [zab]; omega
  case q3 => omega
  intro v' w2 hown' hgrow hblk
  have Ho := q_ hown'
  have Hg := q_ hgrow
  clear hown' hgrow hblk
  go_wp2_with fail
  go_ret
  refine ⟨v', xs, rfl, by simpa using Ho.out, HF.out, zas ((Ext.refl w).alloc _) Hg.out fun b e => ?_⟩
  simp only [Value.ownBlock] at e
  injection e with e
  omega
def zeroU : List Value := [.string ByteArray.empty, .string ByteArray.empty]
theorem zeroU_one : ∀ v ∈ zeroU, v.oneCell' = true := by decide
theorem Tryz.zero23 : ∀ w, (zeroValue 43).run Tryz.prog w = .ok (.agg zeroU.toArray) w := fun _ => by kernel_rfl
theorem compactU_ok (base : Nat) (w : World) (v : Value) (l : List Uid) (xs : List Value) (hown : w.ownsRow base 43 2 v l.length xs) (hf : uidR.Flat (Made base w v) w l xs) (hl : l.length ≤ LIM) :
  Calls Tryz.prog 53 #[v] w fun e w' =>
   ∃ v', e = .returned v' ∧ ∃ xs', w'.ownsRow base 43 2 v' (zbo ordU l).length xs' ∧ uidR.Flat (Made base w' v') w' (zbo ordU l) xs' ∧ Below base w w' ∧ w.drawn ≤ w'.drawn := by
 obtain ⟨hx, hv⟩ := id hown
 have hS0 : ∃ S : Nat → Prop, (∀ b, S b → base ≤ b ∧ b < w.heap.size ∧ v.ownBlock ≠ some b) ∧ uidR.Flat S w l xs := ⟨_, fun b hb => hb, hf⟩
 obtain ⟨S, hSm, hfS⟩ := hS0
 rw [zak] at hl
 have HF := q_ hf
 have HOwn := q_ hown
 by_cases h2 : l.length < 2
 ·have hd : zbo ordU l = l := by
   match l, h2 with
   | [], _ => rfl
   | [x], _ => rfl
  rw [hd]
  obtain ⟨A, cap, rfl⟩ : ∃ A cap, v = .slice A l.length cap := by
   rcases hv with ⟨rfl, hn⟩ | ⟨g, cap, cur, rfl, _⟩
   ·exact ⟨none, 0, by rw [hn]⟩
   ·exact ⟨_, _, rfl⟩
  clear hf hown hfS hSm hv hx hd
  go_enter Tryz.func53, Tryz.ntmps53
  go_wp2_with fail
  go_ret
  exact ⟨_, rfl, xs, HOwn.out, HF.out, Below.refl _ _, Nat.le_refl _⟩
 rcases hv with ⟨rfl, hn⟩ | ⟨g, cap, cur, rfl, hg, hh, hnc, hcm, hcur, htake⟩
 ·omega
 obtain ⟨rows, hr1, hr2, hr3⟩ := rows_ofK (sz := 2) cap cur.toList (by simpa using hcur)
 have hcurr : cur = rows.flatten.toArray := by rw [hr3]
 subst hcurr
 -- each element has its row
 have hrow : ∀ i x, l[i]? = some x → ∃ cs, rows[i]? = some cs ∧ uidR.At S w x cs := fun i x hix => by
  obtain ⟨cs, c2, c3⟩ := hfS.get hix
  have hil : i < l.length := (List.getElem?_eq_some_iff.1 hix).1
  have hir : i < rows.length := by omega
  refine ⟨rows[i], List.getElem?_eq_getElem hir, ?_⟩
  have c1 : cs.length = 2 := uidR.len c2
  have c3 : ∀ (j : Nat) (u : Value), cs[j]? = some u → xs[i * 2 + j]? = some u := c3
  have hrl := hr2 rows[i] (List.getElem_mem hir)
  have : rows[i] = cs := by
   apply List.ext_getElem?
   intro j
   by_cases hj : j < 2
   ·have e1 := zb7 (rows := rows) (i := i) (j := j) hr2 (List.getElem?_eq_getElem hir) (List.getElem?_eq_getElem (by omega))
    have e2 := c3 j cs[j] (List.getElem?_eq_getElem (by omega))
    rw [← htake, List.getElem?_take, if_pos (by omega)] at e2
    dsimp only at e2
    rw [e1] at e2
    rw [List.getElem?_eq_getElem (by omega), List.getElem?_eq_getElem (by omega)]
    exact e2
   ·rw [List.getElem?_eq_none (by omega), List.getElem?_eq_none (by omega)]
  rw [this]; exact c2
 have hSg : ∀ b, S b → b < w.heap.size := fun b hb => (hSm b hb).2.1
 have hgl := zad hh
 rw [zab] at hcm
 have HR := q_ hrow
 have HS := q_ hSg
 have HSm := q_ hSm
 have Hh := q_ hh
 have H8 := q_ hr2
 have Hr1 := q_ hr1
 have Hgl := q_ hgl
 clear hf hown hfS hSm hx hrow hSg hh hr2 hcur htake hr3 hr1 hgl
 have hn2 : 2 ≤ l.length := by omega
 clear h2
 go_enter Tryz.func53, Tryz.ntmps53
 go_wp2_with fail
 go_loopw [3] (fun i wr => ∃ k : Nat, k + 1 ≤ l.length ∧ i = .int .i64 ((k + 1 : Nat) : Int) ∧ Ext w wr ∧ Hid (∀ i x y, i < k → l[i]? = some x → l[i + 1]? = some y → ordU y x ≠ 0)) (fun i _ => l.length - (intOf i).toNat)
 case atStart => exact ⟨0, by omega, rfl, Ext.refl w, fun _ _ _ h => by omega⟩
 case round =>
  obtain ⟨k, hk, rfl, hext, Hall⟩ := hrel
  have HX := q_ hext
  clear hext
  have ek : ((k + 1 : Nat) : Int) = (k : Int) + 1 := by omega
  rw [ek]
  clear ek
  by_cases hlt : k + 1 < l.length
  ·obtain ⟨x, hx⟩ : ∃ x, l[k]? = some x := ⟨_, List.getElem?_eq_getElem (by omega)⟩
   obtain ⟨y, hy⟩ : ∃ y, l[k + 1]? = some y := ⟨_, List.getElem?_eq_getElem hlt⟩
   obtain ⟨cx, hcx, hxa⟩ := HR.out k x hx
   obtain ⟨cy, hcy, hya⟩ := HR.out (k + 1) y hy
   have hxa' := uidR.alike hxa (Alike.of_ext HX.out HS.out)
   have hya' := uidR.alike hya (Alike.of_ext HX.out HS.out)
   obtain ⟨rfl, _⟩ := id hxa
   obtain ⟨rfl, _⟩ := id hya
   have hcax : CellsAt wr g (k * 2) [.string x.1, .string x.2] := fun j u hj => by
    rw [cell_of_row _ _ _ _ _ _ ((HX.out.block _ Hgl.out).trans Hh.out)]
    simpa using zb7 H8.out hcx hj
   have hcay : CellsAt wr g ((k + 1) * 2) [.string y.1, .string y.2] := fun j u hj => by
    rw [cell_of_row _ _ _ _ _ _ ((HX.out.block _ Hgl.out).trans Hh.out)]
    simpa using zb7 H8.out hcy hj
   have Hx := q_ hx
   have Hy := q_ hy
   have Hxa := q_ hxa'
   have Hya := q_ hya'
   have HSr := q_ (show ∀ b, S b → b < wr.heap.size from fun b hb => Nat.lt_of_lt_of_le (HS.out b hb) HX.out.size)
   have f0 := zaa (show wr.cell? ⟨g, k * 2, none⟩ = some (.string x.1) by simpa using hcax 0 _ rfl)
   have f1 := zaa (show wr.cell? ⟨g, k * 2 + 1, none⟩ = some (.string x.2) by simpa using hcax 1 _ rfl)
   have h0 := zaa (show wr.cell? ⟨g, (k + 1) * 2, none⟩ = some (.string y.1) by simpa using hcay 0 _ rfl)
   have h1 := zaa (show wr.cell? ⟨g, (k + 1) * 2 + 1, none⟩ = some (.string y.2) by simpa using hcay 1 _ rfl)
   clear hx hy hcx hcy hxa hya hxa' hya' hcax hcay
   have q1 : (0 : Int) ≤ (k : Int) + 1 := by omega
   have q2 : (k : Int) + 1 < l.length := by omega
   have q3 : ((k : Int) + 1).toNat = k + 1 := by omega
   have q4 : IntKind.i64.wrap ((k : Int) + 1 - 1) = (k : Int) := by rw [show (k : Int) + 1 - 1 = k by omega]; exact IntWalk.i64_in _ (by omega)
   have q5 : IntKind.i64.wrap (k : Int) = (k : Int) := IntWalk.i64_in _ (by omega)
   have q6 : (k : Int) < l.length := by omega
   have q7 : (0 : Int) ≤ (k : Int) := by omega
   have q8 : k < l.length := by omega
   obtain ⟨tb, htb⟩ : ∃ tb, decide (y = x) = tb := ⟨_, rfl⟩
   have tq : ∀ w, (binOp .eql 43 (.agg #[.string y.1, .string y.2]) (.agg #[.string x.1, .string x.2])).run Tryz.prog w = .ok (.bool tb) w := fun w => by rw [← htb]; exact eqlU y x w
   have tq' : ∀ w, (Op.equalIn 10000 43 (.agg #[.string y.1, .string y.2]) (.agg #[.string x.1, .string x.2])).run Tryz.prog w = .ok tb w := fun w => by rw [← htb]; exact zcr y x w
   have tg : ∀ (p q : Operand) w, (eqGuard .eql 43 p q (.agg #[.string y.1, .string y.2]) (.agg #[.string x.1, .string x.2])).run Tryz.prog w = .ok () w := fun p q w => guardU _ p q y x w
   have HT := q_ htb
   clear htb
   go_wp2_with fail
   refine zae (by kernel_rfl) (by kernel_rfl) ?_
   repeat (quiet_step (fail))
   refine wpQuiet_nil ?_
   intro w2 hw2
   have HX2 := q_ hw2
   clear tq tq' tg hw2 f0 f1 h0 h1 q1 q2 q3 q4 q5 q6 q7
   by_cases he : ordU y x = 0
   ·have e0 : tb = true := by rw [← HT.out]; simpa using zeo he
    have He := q_ he
    clear he
    have hmid0 : MidG uidR ordU S w g cap 43 l (k + 1) (k + 1) 0 w2 := by
     have hd : zbo ordU (l.take (k + 1 + 0 + 1)) = l.take (k + 1) := by
      rw [Nat.add_zero, zbj Hx.out Hy.out, if_pos He.out, List.append_nil, zcf (by omega) Hall.out]
     have hx2 := HX.out.trans HX2.out
     refine ⟨GrownBy.of_ext _ hx2, by rw [hd, List.length_take]; omega, by omega, rows, (hx2.block _ Hgl.out).trans Hh.out, Hr1.out, H8.out, fun i z hi => ?_, fun i z _ hz => HR.out i z hz⟩
     rw [hd, List.getElem?_take] at hi
     split at hi
     ·exact HR.out i z hi
     ·cases hi
    have HM0 := q_ hmid0
    clear hmid0 Hall Hx Hy Hxa Hya HSr HX2 HX He
    subst e0
    go_wp2_with fail
    go_loopw [3, 5] (fun u i wr => ∃ (kk q : Nat), k + 1 + q + 1 ≤ l.length ∧ kk ≤ k + 1 + q ∧ u = .int .i64 kk ∧ i = .int .i64 ((q + 1 : Nat) : Int) ∧ Hid (MidG uidR ordU S w g cap 43 l (k + 1) kk q wr)) (fun _ i _ => l.length - (intOf i).toNat)
    case atStart => exact ⟨k + 1, 0, by omega, by omega, by go_num, rfl, HM0.out⟩
    case round =>
     clear HM0
     obtain ⟨kk, q, hq, hkq, rfl, rfl, HM⟩ := hrel
     have ek : ((q + 1 : Nat) : Int) = (q : Int) + 1 := by omega
     rw [ek]
     clear ek
     have elen : ((l.length - (k + 1) : Nat) : Int) = (l.length : Int) - (k + 1) := by omega
     by_cases hql : k + 1 + q + 1 < l.length
     ·obtain ⟨x, hx⟩ : ∃ x, l[k + 1 + q]? = some x := ⟨_, List.getElem?_eq_getElem (by omega)⟩
      obtain ⟨y, hy⟩ : ∃ y, l[k + 1 + q + 1]? = some y := ⟨_, List.getElem?_eq_getElem hql⟩
      obtain ⟨rows', m1, m2, m3, m4, m5⟩ := HM.out.rows
      have m3 : ∀ r ∈ rows', r.length = 2 := m3
      have hal := HM.out.alike HS.out (fun h => (HSm.out g h).2.2 rfl)
      obtain ⟨cx, hcx, hxa⟩ := m5 _ x (by omega) hx
      obtain ⟨cy, hcy, hya⟩ := m5 _ y (by omega) hy
      have hxa' := uidR.alike hxa hal
      have hya' := uidR.alike hya hal
      obtain ⟨rfl, _⟩ := id hxa
      obtain ⟨rfl, _⟩ := id hya
      have hcax : CellsAt wr g ((k + 1) * 2 + q * 2) [.string x.1, .string x.2] := fun j u hj => by
       rw [cell_of_row _ _ _ _ _ _ m1, show (k + 1) * 2 + q * 2 + j = (k + 1 + q) * 2 + j by omega]
       simpa using zb7 m3 hcx hj
      have hcay : CellsAt wr g ((k + 1) * 2 + (q + 1) * 2) [.string y.1, .string y.2] := fun j u hj => by
       rw [cell_of_row _ _ _ _ _ _ m1, show (k + 1) * 2 + (q + 1) * 2 + j = (k + 1 + q + 1) * 2 + j by omega]
       simpa using zb7 m3 hcy hj
      have HSr := q_ (show ∀ b, S b → b < wr.heap.size from fun b hb => Nat.lt_of_lt_of_le (HS.out b hb) HM.out.grown.size)
      have Hm1 := q_ m1
      have Hsz : cap * 2 = rows'.flatten.toArray.size := by have := zcq m3; simp only [List.size_toArray]; omega
      have HSz := q_ Hsz
      have Hx := q_ hx
      have Hy := q_ hy
      have Hxa := q_ hxa'
      have Hya := q_ hya'
      have Hya0 := q_ hya
      have Hcy := q_ hcay
      have f0 := zaa (show wr.cell? ⟨g, (k + 1) * 2 + q * 2, none⟩ = some (.string x.1) by simpa using hcax 0 _ rfl)
      have f1 := zaa (show wr.cell? ⟨g, (k + 1) * 2 + q * 2 + 1, none⟩ = some (.string x.2) by simpa using hcax 1 _ rfl)
      have h0 := zaa (show wr.cell? ⟨g, (k + 1) * 2 + (q + 1) * 2, none⟩ = some (.string y.1) by simpa using hcay 0 _ rfl)
      have h1 := zaa (show wr.cell? ⟨g, (k + 1) * 2 + (q + 1) * 2 + 1, none⟩ = some (.string y.2) by simpa using hcay 1 _ rfl)
      clear hx hy hcx hcy hxa hya hxa' hya' hcax hcay m1 m2 m3 m4 m5 hal Hsz
      have q1 : (0 : Int) ≤ (q : Int) + 1 := by omega
      have q2 : (q : Int) + 1 < ((l.length - (k + 1) : Nat) : Int) := by omega
      have q3 : ((q : Int) + 1).toNat = q + 1 := by omega
      have q4 : IntKind.i64.wrap ((q : Int) + 1 - 1) = (q : Int) := by rw [show (q : Int) + 1 - 1 = q by omega]; exact IntWalk.i64_in _ (by omega)
      have q5 : IntKind.i64.wrap (q : Int) = (q : Int) := IntWalk.i64_in _ (by omega)
      have q6 : (q : Int) < ((l.length - (k + 1) : Nat) : Int) := by omega
      have q7 : (0 : Int) ≤ (q : Int) := by omega
      have q8 : q < l.length - (k + 1) := by omega
      have q9 : q + 1 < l.length - (k + 1) := by omega
      clear elen
      obtain ⟨tb, htb⟩ : ∃ tb, decide (y = x) = tb := ⟨_, rfl⟩
      have tq : ∀ w, (binOp .neq 43 (.agg #[.string y.1, .string y.2]) (.agg #[.string x.1, .string x.2])).run Tryz.prog w = .ok (.bool !tb) w := fun w => by rw [← htb]; exact neqU y x w
      have tq' : ∀ w, (Op.equalIn 10000 43 (.agg #[.string y.1, .string y.2]) (.agg #[.string x.1, .string x.2])).run Tryz.prog w = .ok tb w := fun w => by rw [← htb]; exact zcr y x w
      have tg : ∀ (p q : Operand) w, (eqGuard .neq 43 p q (.agg #[.string y.1, .string y.2]) (.agg #[.string x.1, .string x.2])).run Tryz.prog w = .ok () w := fun p q w => guardU _ p q y x w
      have HT := q_ htb
      clear htb
      go_wp2_with fail
      refine zae (by kernel_rfl) (by kernel_rfl) ?_
      repeat (quiet_step (fail))
      refine wpQuiet_nil ?_
      intro w3 hw3
      have HX3 := q_ hw3
      clear tq tq' tg hw3 f0 f1 h0 h1 q1 q2 q3 q4 q5 q6 q7
      have Hm3 := q_ ((HX3.out.block _ (zad Hm1.out)).trans Hm1.out)
      by_cases he : ordU y x = 0
      ·have e0 : tb = true := by rw [← HT.out]; simpa using zeo he
       have He := q_ he
       clear he
       subst e0
       go_wp2_with fail
       have hfin : ∃ (kk' q' : Nat), k + 1 + q' + 1 ≤ l.length ∧ kk' ≤ k + 1 + q' ∧ Value.int .i64 (kk : Int) = .int .i64 (kk' : Int) ∧ Value.int .i64 ((q : Int) + 1 + 1) = .int .i64 ((q' + 1 : Nat) : Int) ∧ Hid (MidG uidR ordU S w g cap 43 l (k + 1) kk' q' w3) :=
        ⟨kk, q + 1, by omega, by omega, rfl, by go_num, (HM.out.old Hx.out Hy.out He.out).ext HX3.out⟩
       go_roundw
       case rel => exact hfin
       case measure => simp [intOf]; omega
      ·have e0 : tb = false := by rw [← HT.out]; exact decide_eq_false fun e => he (by rw [e]; exact (GoodAt.ordU _).refl)
       have He := q_ he
       clear he
       subst e0
       have hkl : kk < l.length := by omega
       have hkl' : (kk : Int) < l.length := by omega
       go_wp2_with (first | refine zac rfl 43 _ rfl g ((k + 1) * 2 + (q + 1) * 2) rfl zb8 zbk rfl (Hcy.out.alike (S := fun b => b < wr.heap.size) (zad Hm1.out) (Alike.of_ext HX3.out fun _ h => h)) ?_ | refine zah rfl 43 _ _ rfl g (kk * 2) rfl [.string y.1, .string y.2] rfl zbk rfl 43 rows'.flatten.toArray Hm3.out (by have := HSz.out; simp only [List.length_cons, List.length_nil]; omega) (uidR.one Hya0.out) ?_)
       have hfin : ∃ (kk' q' : Nat), k + 1 + q' + 1 ≤ l.length ∧ kk' ≤ k + 1 + q' ∧ Value.int .i64 ((kk : Int) + 1) = .int .i64 (kk' : Int) ∧ Value.int .i64 ((q : Int) + 1 + 1) = .int .i64 ((q' + 1 : Nat) : Int) ∧ Hid (MidG uidR ordU S w g cap 43 l (k + 1) kk' q' (w3.setRow g (rows'.flatten.toArray.toList.take (kk * 2) ++ ([.string y.1, .string y.2] : List Value) ++ rows'.flatten.toArray.toList.drop (kk * 2 + 2)).toArray)) :=
        ⟨kk + 1, q + 1, by omega, by omega, by go_num, by go_num, (HM.out.ext HX3.out).new Hx.out Hy.out He.out Hm3.out Hya0.out (by omega)⟩
       go_roundw
       case rel =>
        simp only [List.append_assoc, List.cons_append, List.nil_append] at hfin
        exact hfin
       case measure => simp [intOf]; omega
     ·have hkl : kk < l.length := by omega
      have hkl' : (kk : Int) < l.length := by omega
      have hkc : kk < cap := by omega
      have hqe : k + 1 + q + 1 = l.length := by omega
      have q2 : ¬ (q : Int) + 1 < ((l.length - (k + 1) : Nat) : Int) := by omega
      have HQ := q_ hqe
      obtain ⟨rows', m1, m2, m3, _, _⟩ := HM.out.rows
      have m3 : ∀ r ∈ rows', r.length = 2 := m3
      have Hsz : cap * 2 = rows'.flatten.toArray.size := by have := zcq m3; simp only [List.size_toArray]; omega
      have HSz := q_ Hsz
      have Hm1 := q_ m1
      clear m1 m2 m3 Hsz hqe elen
      go_wp2_with (refine zdx rfl (.tmp 56) 47 43 rfl Tryz.underlying47 zeroU Tryz.zero23 zeroU_one g (kk * 2) (l.length - kk) (cap - kk) rfl (by omega) 43 rows'.flatten.toArray Hm1.out (by have := HSz.out; simp only [zeroU, List.length_cons, List.length_nil]; omega) ?_)
      intro zs hzs
      have HZ := q_ hzs
      clear hzs
      go_wp2_with fail
      go_ret
      obtain ⟨xs', o1, o2, o3, o4⟩ := HM.out.finish (by rw [HQ.out]) hg (by omega) (by rw [zab]; exact hcm) Hgl.out (fun b hb => ⟨(HSm.out b hb).1, (HSm.out b hb).2.1, fun e => (HSm.out b hb).2.2 (by rw [e]; rfl)⟩) zs (by rw [HZ.out]; rfl) Hm1.out rfl
      simp only [List.append_assoc] at o1 o2 o3 o4
      exact ⟨_, rfl, xs', o1, o2, o3, o4⟩
   ·have e0 : tb = false := by rw [← HT.out]; exact decide_eq_false fun e => he (by rw [e]; exact (GoodAt.ordU _).refl)
    have He := q_ he
    clear he
    subst e0
    go_wp2_with fail
    go_roundw
    case rel => exact ⟨k + 1, by omega, by go_num, HX.out.trans HX2.out, fun i a b hi ha hb => by
     by_cases hik : i = k
     ·subst hik; rw [Hx.out] at ha; rw [Hy.out] at hb; cases ha; cases hb; exact He.out
     ·exact Hall.out i a b (by omega) ha hb⟩
    case measure => simp [intOf]; omega
  ·have hke : k + 1 = l.length := by omega
   have hd : zbo ordU l = l := by
    have := zcf (l := l) (c := ordU) (k := k) (by omega) Hall.out
    rwa [hke, List.take_length] at this
   have HD := q_ hd
   clear hke hd
   go_wp2_with fail
   go_ret
   rw [HD.out]
   refine ⟨_, rfl, xs, zam HOwn.out HX.out, ?_, HX.out.toBelow.mono (by have := hg; have := Hgl.out; omega), HX.out.drawn⟩
   exact (HF.out.alike (Alike.of_ext HX.out fun b hb => hb.2.1)).mono fun b hb => ⟨hb.1, Nat.lt_of_lt_of_le hb.2.1 HX.out.size, hb.2.2⟩
end Go.Proofs.YtbkaffhbhimglaaGreat

/-
  Two rows that stand for the same entities are the same, field by field: what the reference's comparison answers then. The conditions: the rows lie in memory as they should.
-/
namespace Go.Proofs.YtbkaffhbhimglaaGreat
open Go.RowKit
open Lib renaming hid → q_
set_option maxRecDepth 100000
set_option maxHeartbeats 4000000
theorem whole_same (x : Val) (S : Nat → Prop) (w : World) (ca cb : List Value) (hS : ∀ b, S b → b < w.heap.size) (ha : Val.At S w x ca) (hb : Val.At S w x cb) :
  Calls Tryz.prog 37 #[.agg ca.toArray, .agg cb.toArray] w fun en w' => en = .returned (.bool true) ∧ Ext w w' := by
 refine (whole_ok _ x x S w ca cb (Nat.le_refl _) hS ha hb).mono ?_
 rintro e w' ⟨rfl, h⟩
 exact ⟨by rw [eqB_true.2 rfl], h⟩
theorem wholeE_ok (S : Nat → Prop) (l : List Ent) (va vb : Value) (w : World) (hS : ∀ b, S b → b < w.heap.size) (ha : entR.RowsAt S w l va) (hb : entR.RowsAt S w l vb) :
  Calls Tryz.prog 11 #[va, vb] w fun e w' => e = .returned (.bool true) ∧ Ext w w' := by
 obtain ⟨A, cap, rfl, ⟨hl0, hl1, hl2⟩, hlr⟩ := ha
 obtain ⟨A', cap', rfl, ⟨hl0', hl1', hl2'⟩, hlr'⟩ := hb
 rw [zak] at hl0
 rw [zab] at hl2 hl2'
 have HS := q_ hS
 have HL := q_ hlr
 have HL' := q_ hlr'
 clear hS hlr hlr' hl0'
 go_enter Tryz.func11, Tryz.ntmps11
 go_wp2_with fail
 go_loopw [5] (fun i' wr => ∃ j : Nat, j ≤ l.length ∧ i' = .int .i64 j ∧ Hid (Ext w wr)) (fun i' _ => l.length - (intOf i').toNat)
 case atStart => exact ⟨0, Nat.zero_le _, rfl, q_ (Ext.refl _)⟩
 case round =>
  obtain ⟨j, hj, rfl, HX⟩ := hrel
  by_cases hlt : j < l.length
  ·obtain ⟨b, o, rfl, hSb, hrow⟩ := HL.out (by omega)
   obtain ⟨b', o', rfl, hSb', hrow'⟩ := HL'.out (by omega)
   obtain ⟨x, hx⟩ : ∃ x, l[j]? = some x := ⟨_, List.getElem?_eq_getElem hlt⟩
   obtain ⟨cs, hca, hxa⟩ := hrow j x hx
   obtain ⟨cs', hca', hxa'⟩ := hrow' j x hx
   have hsr : ∀ b, S b → b < wr.heap.size := fun b hb => Nat.lt_of_lt_of_le (HS.out b hb) HX.out.size
   obtain ⟨k0, k1, _, _, ⟨pv, k2, hpv⟩, acs, hac, hat, hal⟩ := zcp (hca.alike hSb (Alike.of_ext HX.out HS.out)) (entR.alike hxa (Alike.of_ext HX.out HS.out))
   obtain ⟨k0', k1', _, _, ⟨pv', k2', hpv'⟩, acs', hac', hat', hal'⟩ := zcp (hca'.alike hSb' (Alike.of_ext HX.out HS.out)) (entR.alike hxa' (Alike.of_ext HX.out HS.out))
   obtain ⟨A1, c1, rfl, ⟨p0, p1, p2⟩, hpr⟩ := hpv
   obtain ⟨A1', c1', rfl, ⟨p0', p1', p2'⟩, hpr'⟩ := hpv'
   rw [zak] at p0
   rw [zab] at p2 p2'
   obtain ⟨ka, ba, na, ta, uta, uia, Aa, la, ca, Ab, lb, cb, rfl⟩ := hat.shape
   obtain ⟨ka', ba', na', ta', uta', uia', Aa', la', ca', Ab', lb', cb', rfl⟩ := hat'.shape
   have Hat := q_ hat
   have Hat' := q_ hat'
   have Hpr := q_ hpr
   have Hpr' := q_ hpr'
   have HSr := q_ hsr
   have Hx := q_ hx
   have K0 := q_ (show wr.cell? ⟨b, o + j * 11, none⟩ = _ from k0)
   have K1 := q_ (show wr.cell? ⟨b, o + j * 11 + 1, none⟩ = _ from k1)
   have K2 := q_ (show wr.cell? ⟨b, o + j * 11 + 2, none⟩ = _ from k2)
   have K0' := q_ (show wr.cell? ⟨b', o' + j * 11, none⟩ = _ from k0')
   have K1' := q_ (show wr.cell? ⟨b', o' + j * 11 + 1, none⟩ = _ from k1')
   have K2' := q_ (show wr.cell? ⟨b', o' + j * 11 + 2, none⟩ = _ from k2')
   have f0 := zaa (show wr.cell? ⟨b, o + j * 11 + 3, none⟩ = some (.int .i64 ka) from hac 0 _ rfl)
   have f1 := zaa (show wr.cell? ⟨b, o + j * 11 + 3 + 1, none⟩ = some (.bool ba) from hac 1 _ rfl)
   have f2 := zaa (show wr.cell? ⟨b, o + j * 11 + 3 + 2, none⟩ = some (.int .i64 na) from hac 2 _ rfl)
   have f3 := zaa (show wr.cell? ⟨b, o + j * 11 + 3 + 3, none⟩ = some (.string ta) from hac 3 _ rfl)
   have f4 := zaa (show wr.cell? ⟨b, o + j * 11 + 3 + 4, none⟩ = some (.string uta) from hac 4 _ rfl)
   have f5 := zaa (show wr.cell? ⟨b, o + j * 11 + 3 + 5, none⟩ = some (.string uia) from hac 5 _ rfl)
   have f6 := zaa (show wr.cell? ⟨b, o + j * 11 + 3 + 6, none⟩ = some (.slice Aa la ca) from hac 6 _ rfl)
   have f7 := zaa (show wr.cell? ⟨b, o + j * 11 + 3 + 7, none⟩ = some (.slice Ab lb cb) from hac 7 _ rfl)
   have g0 := zaa (show wr.cell? ⟨b', o' + j * 11 + 3, none⟩ = some (.int .i64 ka') from hac' 0 _ rfl)
   have g1 := zaa (show wr.cell? ⟨b', o' + j * 11 + 3 + 1, none⟩ = some (.bool ba') from hac' 1 _ rfl)
   have g2 := zaa (show wr.cell? ⟨b', o' + j * 11 + 3 + 2, none⟩ = some (.int .i64 na') from hac' 2 _ rfl)
   have g3 := zaa (show wr.cell? ⟨b', o' + j * 11 + 3 + 3, none⟩ = some (.string ta') from hac' 3 _ rfl)
   have g4 := zaa (show wr.cell? ⟨b', o' + j * 11 + 3 + 4, none⟩ = some (.string uta') from hac' 4 _ rfl)
   have g5 := zaa (show wr.cell? ⟨b', o' + j * 11 + 3 + 5, none⟩ = some (.string uia') from hac' 5 _ rfl)
   have g6 := zaa (show wr.cell? ⟨b', o' + j * 11 + 3 + 6, none⟩ = some (.slice Aa' la' ca') from hac' 6 _ rfl)
   have g7 := zaa (show wr.cell? ⟨b', o' + j * 11 + 3 + 7, none⟩ = some (.slice Ab' lb' cb') from hac' 7 _ rfl)
   clear hx hca hxa hrow hca' hxa' hrow' k0 k1 k2 k0' k1' k2' hac hat hal hac' hat' hal' hsr hpr hpr'
   go_wp2_with fail
   refine zae (by kernel_rfl) (by kernel_rfl) ?_
   repeat (quiet_step ((go_at_call 37; exact zan (fun w1 hw1 => whole_same x.av S w1 [_, _, _, _, _, _, _, _] [_, _, _, _, _, _, _, _] (fun b hb => Nat.lt_of_lt_of_le (HSr.out b hb) hw1.size) (Hat.out.alike (Alike.of_ext hw1 HSr.out)) (Hat'.out.alike (Alike.of_ext hw1 HSr.out))) _ _)))
   refine wpQuiet_nil ?_
   intro w2 hw2
   have h0 := zaa (hw2.cell K0.out)
   have h1 := zaa (hw2.cell K1.out)
   have h2 := zaa (hw2.cell K2.out)
   have h0' := zaa (hw2.cell K0'.out)
   have h1' := zaa (hw2.cell K1'.out)
   have h2' := zaa (hw2.cell K2'.out)
   have HX2 := q_ (HX.out.trans hw2)
   have HR2 := q_ hw2
   have K2b := q_ (hw2.cell K2.out)
   have K2b' := q_ (hw2.cell K2'.out)
   clear hw2 f0 f1 f2 f3 f4 f5 f6 f7 g0 g1 g2 g3 g4 g5 g6 g7 K0 K1 K2 K0' K1' K2' HX Hat Hat'
   have tq : ∀ w, (binOp .neq 43 (.agg #[.string x.uid.1, .string x.uid.2]) (.agg #[.string x.uid.1, .string x.uid.2])).run Tryz.prog w = .ok (.bool false) w := fun w => (neqU x.uid x.uid w).trans (by simp)
   have tq' : ∀ w, (Op.equalIn 10000 43 (.agg #[.string x.uid.1, .string x.uid.2]) (.agg #[.string x.uid.1, .string x.uid.2])).run Tryz.prog w = .ok true w := fun w => (zcr x.uid x.uid w).trans (by simp)
   have tg : ∀ (p q : Operand) w, (eqGuard .neq 43 p q (.agg #[.string x.uid.1, .string x.uid.2]) (.agg #[.string x.uid.1, .string x.uid.2])).run Tryz.prog w = .ok () w := fun p q w => guardU _ p q x.uid x.uid w
   go_wp2_with fail
   refine zae (by kernel_rfl) (by kernel_rfl) ?_
   repeat (go_big_quiet_step (fail))
   refine wpQuiet_nil ?_
   intro w3 hw3
   have HX3 := q_ (HX2.out.trans hw3)
   have HR3 := q_ (HR2.out.trans hw3)
   have K2 := q_ (hw3.cell K2b.out)
   have K2' := q_ (hw3.cell K2b'.out)
   clear hw3 h0 h1 h2 h0' h1' h2' tq tq' tg K2b K2b' HR2 HX2
   go_wp2_with fail
   go_loopw [7] (fun q' w4 => ∃ q : Nat, q ≤ x.ps.length ∧ q' = .int .i64 q ∧ Hid (Ext w3 w4)) (fun q' _ => x.ps.length - (intOf q').toNat)
   case atStart => exact ⟨0, Nat.zero_le _, rfl, q_ (Ext.refl _)⟩
   case round =>
    obtain ⟨q, hq, rfl, HX4⟩ := hrel
    have k2 := HX4.out.cell K2.out
    have k2' := HX4.out.cell K2'.out
    by_cases hqlt : q < x.ps.length
    ·obtain ⟨b2, o2, rfl, hSb2, hrow2⟩ := Hpr.out (by omega)
     obtain ⟨b3, o3, rfl, hSb3, hrow3⟩ := Hpr'.out (by omega)
     obtain ⟨y, hy⟩ : ∃ y, x.ps[q]? = some y := ⟨_, List.getElem?_eq_getElem hqlt⟩
     obtain ⟨cs2, hca2, rfl, hfy⟩ := hrow2 q y hy
     obtain ⟨cs3, hca3, rfl, _⟩ := hrow3 q y hy
     have r0 := zaa k2
     have r1 := zaa k2'
     have f0 := zaa (show wr.cell? ⟨b2, o2 + q * 2, none⟩ = some (.string y.1) from HX4.out.cell (HR3.out.cell (hca2 0 _ rfl)))
     have f1 := zaa (show wr.cell? ⟨b2, o2 + q * 2 + 1, none⟩ = some (.string y.2) from HX4.out.cell (HR3.out.cell (hca2 1 _ rfl)))
     have g0 := zaa (show wr.cell? ⟨b3, o3 + q * 2, none⟩ = some (.string y.1) from HX4.out.cell (HR3.out.cell (hca3 0 _ rfl)))
     have g1 := zaa (show wr.cell? ⟨b3, o3 + q * 2 + 1, none⟩ = some (.string y.2) from HX4.out.cell (HR3.out.cell (hca3 1 _ rfl)))
     have tq : ∀ w, (binOp .neq 43 (.agg #[.string y.1, .string y.2]) (.agg #[.string y.1, .string y.2])).run Tryz.prog w = .ok (.bool false) w := fun w => (neqU y y w).trans (by simp)
     have tq' : ∀ w, (Op.equalIn 10000 43 (.agg #[.string y.1, .string y.2]) (.agg #[.string y.1, .string y.2])).run Tryz.prog w = .ok true w := fun w => (zcr y y w).trans (by simp)
     have tg : ∀ (p q : Operand) w, (eqGuard .neq 43 p q (.agg #[.string y.1, .string y.2]) (.agg #[.string y.1, .string y.2])).run Tryz.prog w = .ok () w := fun p q w => guardU _ p q y y w
     clear hy hca2 hca3 hrow2 hrow3 hfy
     go_wp2_with fail
     refine zae (by kernel_rfl) (by kernel_rfl) ?_
     repeat (quiet_step (fail))
     refine wpQuiet_nil ?_
     intro w5 hw5
     have HX5 := q_ hw5
     clear hw5 r0 r1 f0 f1 g0 g1 tq tq' tg k2 k2'
     go_wp2_with fail
     go_roundw
     case rel => exact ⟨q + 1, by omega, by go_num, q_ (HX4.out.trans HX5.out)⟩
     case measure => simp [intOf]; omega
    ·go_wp2_with fail
     go_roundw
     case rel => exact ⟨j + 1, by omega, by go_num, q_ (HX3.out.trans HX4.out)⟩
     case measure => simp [intOf]; omega
  ·go_wp2_with fail
   go_ret
   exact ⟨rfl, HX.out⟩
end Go.Proofs.YtbkaffhbhimglaaGreat

/-
  Two rows of one entity each, of the same name: what the reference's comparison answers. The conditions: the rows lie in memory as they should.
-/
namespace Go.Proofs.YtbkaffhbhimglaaGreat
open Go.RowKit
open Lib renaming hid → q_
set_option maxRecDepth 100000
set_option maxHeartbeats 4000000
theorem whole_two (x y : Val) (S : Nat → Prop) (w : World) (ca cb : List Value) (hS : ∀ b, S b → b < w.heap.size) (ha : Val.At S w x ca) (hb : Val.At S w y cb) :
  Calls Tryz.prog 37 #[.agg ca.toArray, .agg cb.toArray] w fun en w' => en = .returned (.bool (eqB x y)) ∧ Ext w w' := whole_ok _ x y S w ca cb (Nat.le_refl _) hS ha hb
theorem wholeO_ok (S : Nat → Prop) (x y : Ent) (va vb : Value) (w : World) (hS : ∀ b, S b → b < w.heap.size) (ha : entR.RowsAt S w [x] va) (hb : entR.RowsAt S w [y] vb) (hu : x.uid = y.uid) :
  Calls Tryz.prog 11 #[va, vb] w fun e w' => e = .returned (.bool (eqB x.av y.av && decide (x.ps = y.ps))) ∧ Ext w w' := by
 obtain ⟨xu, xps, xav⟩ := x
 obtain ⟨yu, yps, yav⟩ := y
 obtain rfl : xu = yu := hu
 obtain ⟨tv, htv⟩ : ∃ t, eqB xav yav = t := ⟨_, rfl⟩
 show Calls _ _ _ _ fun e w' => e = .returned (.bool (eqB xav yav && decide (xps = yps))) ∧ Ext w w'
 rw [htv]
 have HTv := q_ htv
 clear htv
 obtain ⟨A, cap, rfl, ⟨hl0, hl1, hl2⟩, hlr⟩ := ha
 obtain ⟨A', cap', rfl, ⟨hl0', hl1', hl2'⟩, hlr'⟩ := hb
 rw [zak] at hl0
 rw [zab] at hl2 hl2'
 have HS := q_ hS
 have HL := q_ hlr
 have HL' := q_ hlr'
 clear hS hlr hlr' hl0'
 go_enter Tryz.func11, Tryz.ntmps11
 go_wp2_with fail
 go_loopw [5] (fun i' wr => ∃ j : Nat, j ≤ 1 ∧ i' = .int .i64 j ∧ Hid (Ext w wr) ∧ Hid (1 ≤ j → tv = true ∧ xps = yps)) (fun i' _ => 1 - (intOf i').toNat)
 case atStart => exact ⟨0, Nat.zero_le _, rfl, q_ (Ext.refl _), q_ fun h => absurd h (by omega)⟩
 case round =>
  obtain ⟨j, hj, rfl, HX, HJ⟩ := hrel
  by_cases hlt : j < 1
  ·obtain ⟨b, o, rfl, hSb, hrow⟩ := HL.out (by simp)
   obtain ⟨b', o', rfl, hSb', hrow'⟩ := HL'.out (by simp)
   obtain ⟨cs, hca, hxa⟩ := hrow j ⟨xu, xps, xav⟩ (by have h0 : j = 0 := (by omega); subst h0; rfl)
   obtain ⟨cs', hca', hxa'⟩ := hrow' j ⟨xu, yps, yav⟩ (by have h0 : j = 0 := (by omega); subst h0; rfl)
   have hsr : ∀ b, S b → b < wr.heap.size := fun b hb => Nat.lt_of_lt_of_le (HS.out b hb) HX.out.size
   obtain ⟨k0, k1, _, _, ⟨pv, k2, hpv⟩, acs, hac, hat, hal⟩ := zcp (hca.alike hSb (Alike.of_ext HX.out HS.out)) (entR.alike hxa (Alike.of_ext HX.out HS.out))
   obtain ⟨k0', k1', _, _, ⟨pv', k2', hpv'⟩, acs', hac', hat', hal'⟩ := zcp (hca'.alike hSb' (Alike.of_ext HX.out HS.out)) (entR.alike hxa' (Alike.of_ext HX.out HS.out))
   obtain ⟨A1, c1, rfl, ⟨p0, p1, p2⟩, hpr⟩ := hpv
   obtain ⟨A1', c1', rfl, ⟨p0', p1', p2'⟩, hpr'⟩ := hpv'
   rw [zak] at p0
   rw [zab] at p2 p2'
   obtain ⟨ka, ba, na, ta, uta, uia, Aa, la, ca, Ab, lb, cb, rfl⟩ := hat.shape
   obtain ⟨ka', ba', na', ta', uta', uia', Aa', la', ca', Ab', lb', cb', rfl⟩ := hat'.shape
   have Hat := q_ hat
   have Hat' := q_ hat'
   have Hpr := q_ hpr
   have Hpr' := q_ hpr'
   have HSr := q_ hsr
   have K0 := q_ (show wr.cell? ⟨b, o + j * 11, none⟩ = _ from k0)
   have K1 := q_ (show wr.cell? ⟨b, o + j * 11 + 1, none⟩ = _ from k1)
   have K2 := q_ (show wr.cell? ⟨b, o + j * 11 + 2, none⟩ = _ from k2)
   have K0' := q_ (show wr.cell? ⟨b', o' + j * 11, none⟩ = _ from k0')
   have K1' := q_ (show wr.cell? ⟨b', o' + j * 11 + 1, none⟩ = _ from k1')
   have K2' := q_ (show wr.cell? ⟨b', o' + j * 11 + 2, none⟩ = _ from k2')
   have f0 := zaa (show wr.cell? ⟨b, o + j * 11 + 3, none⟩ = some (.int .i64 ka) from hac 0 _ rfl)
   have f1 := zaa (show wr.cell? ⟨b, o + j * 11 + 3 + 1, none⟩ = some (.bool ba) from hac 1 _ rfl)
   have f2 := zaa (show wr.cell? ⟨b, o + j * 11 + 3 + 2, none⟩ = some (.int .i64 na) from hac 2 _ rfl)
   have f3 := zaa (show wr.cell? ⟨b, o + j * 11 + 3 + 3, none⟩ = some (.string ta) from hac 3 _ rfl)
   have f4 := zaa (show wr.cell? ⟨b, o + j * 11 + 3 + 4, none⟩ = some (.string uta) from hac 4 _ rfl)
   have f5 := zaa (show wr.cell? ⟨b, o + j * 11 + 3 + 5, none⟩ = some (.string uia) from hac 5 _ rfl)
   have f6 := zaa (show wr.cell? ⟨b, o + j * 11 + 3 + 6, none⟩ = some (.slice Aa la ca) from hac 6 _ rfl)
   have f7 := zaa (show wr.cell? ⟨b, o + j * 11 + 3 + 7, none⟩ = some (.slice Ab lb cb) from hac 7 _ rfl)
   have g0 := zaa (show wr.cell? ⟨b', o' + j * 11 + 3, none⟩ = some (.int .i64 ka') from hac' 0 _ rfl)
   have g1 := zaa (show wr.cell? ⟨b', o' + j * 11 + 3 + 1, none⟩ = some (.bool ba') from hac' 1 _ rfl)
   have g2 := zaa (show wr.cell? ⟨b', o' + j * 11 + 3 + 2, none⟩ = some (.int .i64 na') from hac' 2 _ rfl)
   have g3 := zaa (show wr.cell? ⟨b', o' + j * 11 + 3 + 3, none⟩ = some (.string ta') from hac' 3 _ rfl)
   have g4 := zaa (show wr.cell? ⟨b', o' + j * 11 + 3 + 4, none⟩ = some (.string uta') from hac' 4 _ rfl)
   have g5 := zaa (show wr.cell? ⟨b', o' + j * 11 + 3 + 5, none⟩ = some (.string uia') from hac' 5 _ rfl)
   have g6 := zaa (show wr.cell? ⟨b', o' + j * 11 + 3 + 6, none⟩ = some (.slice Aa' la' ca') from hac' 6 _ rfl)
   have g7 := zaa (show wr.cell? ⟨b', o' + j * 11 + 3 + 7, none⟩ = some (.slice Ab' lb' cb') from hac' 7 _ rfl)
   clear hca hxa hrow hca' hxa' hrow' k0 k1 k2 k0' k1' k2' hac hat hal hac' hat' hal' hsr hpr hpr'
   go_wp2_with fail
   refine zae (by kernel_rfl) (by kernel_rfl) ?_
   repeat (quiet_step ((go_at_call 37; exact zan (fun w1 hw1 => whole_two xav yav S w1 [_, _, _, _, _, _, _, _] [_, _, _, _, _, _, _, _] (fun b hb => Nat.lt_of_lt_of_le (HSr.out b hb) hw1.size) (Hat.out.alike (Alike.of_ext hw1 HSr.out)) (Hat'.out.alike (Alike.of_ext hw1 HSr.out))) _ _)))
   refine wpQuiet_nil ?_
   intro w2 hw2
   have h0 := zaa (hw2.cell K0.out)
   have h1 := zaa (hw2.cell K1.out)
   have h2 := zaa (hw2.cell K2.out)
   have h0' := zaa (hw2.cell K0'.out)
   have h1' := zaa (hw2.cell K1'.out)
   have h2' := zaa (hw2.cell K2'.out)
   rw [HTv.out]
   have HX2 := q_ (HX.out.trans hw2)
   have HR2 := q_ hw2
   have K2b := q_ (hw2.cell K2.out)
   have K2b' := q_ (hw2.cell K2'.out)
   clear hw2 f0 f1 f2 f3 f4 f5 f6 f7 g0 g1 g2 g3 g4 g5 g6 g7 K0 K1 K2 K0' K1' K2' HX Hat Hat' HJ
   have tq : ∀ w, (binOp .neq 43 (.agg #[.string xu.1, .string xu.2]) (.agg #[.string xu.1, .string xu.2])).run Tryz.prog w = .ok (.bool false) w := fun w => (neqU xu xu w).trans (by simp)
   have tq' : ∀ w, (Op.equalIn 10000 43 (.agg #[.string xu.1, .string xu.2]) (.agg #[.string xu.1, .string xu.2])).run Tryz.prog w = .ok true w := fun w => (zcr xu xu w).trans (by simp)
   have tg : ∀ (p q : Operand) w, (eqGuard .neq 43 p q (.agg #[.string xu.1, .string xu.2]) (.agg #[.string xu.1, .string xu.2])).run Tryz.prog w = .ok () w := fun p q w => guardU _ p q xu xu w
   cases tv with
   | false =>
    go_wp2_with fail
    refine zae (by kernel_rfl) (by kernel_rfl) ?_
    repeat (go_big_quiet_step (fail))
    refine wpQuiet_nil ?_
    intro w3 hw3
    have HX3 := q_ (HX2.out.trans hw3)
    clear hw3 h0 h1 h2 h0' h1' h2' tq tq' tg K2b K2b' HR2 HX2
    go_wp2_with fail
    go_ret
    exact ⟨by simp, HX3.out⟩
   | true =>
   by_cases hlen : xps.length = yps.length
   ·have t5 : ((xps.length : Int) != (yps.length : Int)) = false := by simp [hlen]
    go_wp2_with fail
    refine zae (by kernel_rfl) (by kernel_rfl) ?_
    repeat (go_big_quiet_step (fail))
    refine wpQuiet_nil ?_
    intro w3 hw3
    have HX3 := q_ (HX2.out.trans hw3)
    have HR3 := q_ (HR2.out.trans hw3)
    have K2 := q_ (hw3.cell K2b.out)
    have K2' := q_ (hw3.cell K2b'.out)
    clear t5 hw3 h0 h1 h2 h0' h1' h2' tq tq' tg K2b K2b' HR2 HX2
    go_wp2_with fail
    go_loopw [7] (fun q' w4 => ∃ q : Nat, q ≤ xps.length ∧ q' = .int .i64 q ∧ Hid (Ext w3 w4) ∧ Hid (xps.take q = yps.take q)) (fun q' _ => xps.length - (intOf q').toNat)
    case atStart => exact ⟨0, Nat.zero_le _, rfl, q_ (Ext.refl _), q_ rfl⟩
    case round =>
     obtain ⟨q, hq, rfl, HX4, HQ⟩ := hrel
     have k2 := HX4.out.cell K2.out
     have k2' := HX4.out.cell K2'.out
     by_cases hqlt : q < xps.length
     ·obtain ⟨b2, o2, rfl, hSb2, hrow2⟩ := Hpr.out (by omega)
      obtain ⟨b3, o3, rfl, hSb3, hrow3⟩ := Hpr'.out (by omega)
      obtain ⟨y, hy⟩ : ∃ y, xps[q]? = some y := ⟨_, List.getElem?_eq_getElem hqlt⟩
      obtain ⟨cs2, hca2, rfl, hfy⟩ := hrow2 q y hy
      obtain ⟨z, hz⟩ : ∃ z, yps[q]? = some z := ⟨_, List.getElem?_eq_getElem (by omega)⟩
      obtain ⟨cs3, hca3, rfl, _⟩ := hrow3 q z hz
      have r0 := zaa k2
      have r1 := zaa k2'
      have f0 := zaa (show wr.cell? ⟨b2, o2 + q * 2, none⟩ = some (.string y.1) from HX4.out.cell (HR3.out.cell (hca2 0 _ rfl)))
      have f1 := zaa (show wr.cell? ⟨b2, o2 + q * 2 + 1, none⟩ = some (.string y.2) from HX4.out.cell (HR3.out.cell (hca2 1 _ rfl)))
      have g0 := zaa (show wr.cell? ⟨b3, o3 + q * 2, none⟩ = some (.string z.1) from HX4.out.cell (HR3.out.cell (hca3 0 _ rfl)))
      have g1 := zaa (show wr.cell? ⟨b3, o3 + q * 2 + 1, none⟩ = some (.string z.2) from HX4.out.cell (HR3.out.cell (hca3 1 _ rfl)))
      obtain ⟨tb, htb⟩ : ∃ t, decide (y = z) = t := ⟨_, rfl⟩
      have tq : ∀ w, (binOp .neq 43 (.agg #[.string y.1, .string y.2]) (.agg #[.string z.1, .string z.2])).run Tryz.prog w = .ok (.bool (!tb)) w := fun w => by rw [← htb]; exact neqU y z w
      have tq' : ∀ w, (Op.equalIn 10000 43 (.agg #[.string y.1, .string y.2]) (.agg #[.string z.1, .string z.2])).run Tryz.prog w = .ok tb w := fun w => by rw [← htb]; exact zcr y z w
      have tg : ∀ (p q : Operand) w, (eqGuard .neq 43 p q (.agg #[.string y.1, .string y.2]) (.agg #[.string z.1, .string z.2])).run Tryz.prog w = .ok () w := fun p q w => guardU _ p q y z w
      have Htb := q_ htb
      have Hy := q_ hy
      have Hz := q_ hz
      clear hy hz htb hca2 hca3 hrow2 hrow3 hfy
      go_wp2_with fail
      refine zae (by kernel_rfl) (by kernel_rfl) ?_
      repeat (quiet_step (fail))
      refine wpQuiet_nil ?_
      intro w5 hw5
      have HX5 := q_ hw5
      clear hw5 r0 r1 f0 f1 g0 g1 tq tq' tg k2 k2'
      cases tb with
      | true =>
       have hyz : y = z := of_decide_eq_true Htb.out
       subst hyz
       go_wp2_with fail
       go_roundw
       case rel => exact ⟨q + 1, by omega, by go_num, q_ (HX4.out.trans HX5.out), q_ (by rw [List.take_add_one, List.take_add_one, Hy.out, Hz.out, HQ.out])⟩
       case measure => simp [intOf]; omega
      | false =>
       have hyz : y ≠ z := of_decide_eq_false Htb.out
       have hne : xps ≠ yps := fun h => hyz (by have h1 := Hy.out; rw [h, Hz.out] at h1; exact (Option.some.inj h1).symm)
       go_wp2_with fail
       go_ret
       exact ⟨by simp [hne], (HX3.out.trans HX4.out).trans HX5.out⟩
     ·have HPs : Hid (xps = yps) := q_ (by
       have h := HQ.out
       have he : q = xps.length := by omega
       rw [he, List.take_length, hlen, List.take_length] at h
       exact h)
      go_wp2_with fail
      go_roundw
      case rel => exact ⟨j + 1, by omega, by go_num, q_ (HX3.out.trans HX4.out), q_ fun _ => ⟨trivial, HPs.out⟩⟩
      case measure => simp [intOf]; omega
   ·have t5 : ((xps.length : Int) != (yps.length : Int)) = true := by simp; omega
    have hne : xps ≠ yps := fun h => hlen (by rw [h])
    go_wp2_with fail
    refine zae (by kernel_rfl) (by kernel_rfl) ?_
    repeat (go_big_quiet_step (fail))
    refine wpQuiet_nil ?_
    intro w3 hw3
    have HX3 := q_ (HX2.out.trans hw3)
    clear t5 hw3 h0 h1 h2 h0' h1' h2' tq tq' tg K2b K2b' HR2 HX2
    go_wp2_with fail
    go_ret
    exact ⟨by simp [hne], HX3.out⟩
  ·go_wp2_with fail
   go_ret
   have hj1 := HJ.out (by omega)
   exact ⟨by rw [hj1.1, hj1.2]; simp, HX.out⟩
end Go.Proofs.YtbkaffhbhimglaaGreat
