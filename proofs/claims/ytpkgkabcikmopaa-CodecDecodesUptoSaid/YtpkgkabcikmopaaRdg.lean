/-
  A value that is read out of bytes, in the making. The conditions: none (definitions and lemmas).
-/
import Derived.Test.YtpkgkabcikmopaaReadsP
namespace Go.Proofs.Ytpkgkabcikmopaa
open Go.RowKit

/-- nothing has turned but what is named -/
structure Off (w w' : World) (P : Nat → Prop) : Prop where
  os : w'.os = w.os
  tape : w'.tape = w.tape
  output : w'.output = w.output
  size : w.heap.size ≤ w'.heap.size
  block : ∀ b, b < w.heap.size → ¬ P b → w'.heap[b]? = w.heap[b]?
  drawn : w.drawn ≤ w'.drawn
theorem Off.refl (w : World) (P : Nat → Prop) : Off w w P := ⟨rfl, rfl, rfl, Nat.le_refl _, fun _ _ _ => rfl, Nat.le_refl _⟩
theorem Off.of_ext {w w' : World} (h : Ext w w') (P : Nat → Prop) : Off w w' P := ⟨h.os, h.tape, h.output, h.size, fun b hb _ => h.block b hb, h.drawn⟩
theorem Off.of_grown {w w' : World} {r : Option Nat} {P : Nat → Prop} (h : GrownBy w w' r) (hP : ∀ b, r = some b → P b) : Off w w' P := ⟨h.os, h.tape, h.output, h.size, fun b hb hn => h.block b hb fun e => hn (hP b e.symm), h.drawn⟩
theorem Off.trans {w w1 w2 : World} {P : Nat → Prop} (h : Off w w1 P) (k : Off w1 w2 P) : Off w w2 P :=
  ⟨k.os.trans h.os, k.tape.trans h.tape, k.output.trans h.output, Nat.le_trans h.size k.size, fun b hb hn => (k.block b (Nat.lt_of_lt_of_le hb h.size) hn).trans (h.block b hb hn), Nat.le_trans h.drawn k.drawn⟩
theorem Off.mono {w w' : World} {P P' : Nat → Prop} (h : Off w w' P) (hP : ∀ b, P b → P' b) : Off w w' P' := ⟨h.os, h.tape, h.output, h.size, fun b hb hn => h.block b hb fun e => hn (hP b e), h.drawn⟩
theorem Off.grown {w w' : World} {g : Nat} (h : Off w w' (fun b => b = g)) : GrownBy w w' (some g) := ⟨⟨h.os, h.tape, h.output, h.size, fun b hb hn => h.block b hb fun e => hn (by rw [e])⟩, h.drawn⟩
/-- what is new may turn -/
theorem Off.fresh {w w1 w2 : World} {P P' : Nat → Prop} (h : Off w w1 P) (k : Off w1 w2 P') (hP : ∀ b, P' b → P b ∨ w.heap.size ≤ b) : Off w w2 P :=
  ⟨k.os.trans h.os, k.tape.trans h.tape, k.output.trans h.output, Nat.le_trans h.size k.size, fun b hb hn => (k.block b (Nat.lt_of_lt_of_le hb h.size) (fun e => by rcases hP b e with h1 | h1; exact hn h1; omega)).trans (h.block b hb hn), Nat.le_trans h.drawn k.drawn⟩
theorem GrownBy.fresh {w w1 w2 : World} {g x : Nat} (h : GrownBy w w1 (some g)) (k : GrownBy w1 w2 (some x)) (hx : x = g ∨ w.heap.size ≤ x) : GrownBy w w2 (some g) :=
  (Off.fresh (P := fun b => b = g) (Off.of_grown h fun b e => by injection e with e; exact e.symm) (Off.of_grown (P := fun b => b = x) k fun b e => by injection e with e; exact e.symm) fun b hb => by
    subst hb
    rcases hx with h1 | h1
    · exact .inl h1
    · exact .inr h1).grown
theorem ownsRow_same {w w' : World} {base : Nat} {e : TypeId} {size : Nat} {v : Value} {n : Nat} {xs : List Value} (h : w.ownsRow base e size v n xs) (hs : ∀ b, v.ownBlock = some b → w'.heap[b]? = w.heap[b]?) : w'.ownsRow base e size v n xs := by
  obtain ⟨h1, h2⟩ := h
  refine ⟨h1, ?_⟩
  rcases h2 with h2 | ⟨g, cap, cur, hv, hg, hh, q⟩
  · exact .inl h2
  · exact .inr ⟨g, cap, cur, hv, hg, (hs g (by rw [hv]; rfl)).trans hh, q⟩
theorem RdAt.off {lim : Nat} {w w' : World} {g : Nat} {bs : List UInt8} {bad : Bool} {P : Nat → Prop} (h : RdAt lim w g bs bad) (k : Off w w' P) (hg : ¬ P g) (hP : ∀ b, b < lim → ¬ P b) : RdAt lim w' g bs bad :=
  h.same k.size (k.block g h.lt hg) fun b hb _ => k.block b (Nat.lt_of_lt_of_le hb h.lim) (hP b hb)

/-- a scalar stored into a cell of a known block -/
theorem wpList_store_one {P : Program} {ops : Array Oper} {rest : List Oper} {op : Oper} {a : Act} {w : World} {Q : Exit → Act → World → Prop} (hgd : op.guard = none) (ty : TypeId) (x y : Operand) (ho : op.op = .store ty x y)
    (g off : Nat) (hx : a.eval x = .pointer (some ⟨g, off, none⟩)) (v : Value) (hy : a.eval y = v) (hc : v.cells = #[v]) (h1 : v.oneCell' = true) (hz : ∀ w, (Go.sizeOf ty).run P w = .ok 1 w)
    (T : TypeId) (cur : Array Value) (hg : w.heap[g]? = some (.cells cur T (0, 0))) (hl : off < cur.size)
    (hk : ∀ w', w'.heap[g]? = some (.cells (cur.setIfInBounds off v) T (0, 0)) → GrownBy w w' (some g) → wpList P ops Q rest (a.put op.dst undef) w') : wpList P ops Q (op :: rest) a w :=
  wpList_plain hgd fun K hK => by
    have hst := run_storeCells_at (P := P) g off T [v] 0 cur w hg (by simp; omega) (by simpa using h1)
    simp only [Nat.add_zero] at hst
    have hst' : ∃ w', (storeVar ty ⟨g, off, none⟩ v).run P w = .ok () w' ∧ w'.heap[g]? = some (.cells (cur.setIfInBounds off v) T (0, 0)) ∧ GrownBy w w' (some g) := by
      refine ⟨w.setRow g (cur.toList.take off ++ [v] ++ cur.toList.drop (off + 1)).toArray, ?_, ?_, GrownBy.setRow _ _ _⟩
      · simpa [storeVar, hz, hc] using hst
      · rw [heap_setRow hg]
        congr 2
        apply Array.ext_getElem?
        intro i
        simp only [List.getElem?_toArray, Array.getElem?_setIfInBounds]
        rcases Nat.lt_trichotomy i off with h | h | h
        · rw [List.append_assoc, List.getElem?_append_left (by simp; omega), List.getElem?_take, if_pos h, if_neg (by omega)]; simp
        · subst h
          have hm : (cur.toList.take i).length = i := by simp; omega
          rw [List.append_assoc, List.getElem?_append_right (by omega), hm, if_pos rfl, if_pos hl]
          simp
        · rw [List.getElem?_append_right (by simp; omega), if_neg (by omega), List.getElem?_drop]
          simp
          congr 1
          omega
    obtain ⟨w', h1, h2, h3⟩ := hst'
    unfold Oper.wp execOp
    simp only [ho, hx, hy, Instr.storeAt, Instr.sureAddr, Sem.run_bind, Sem.run_pure, Result.andThen_ok, h1]
    exact hK _ _ (hk w' h2 h3)

/-! ### the rows of a value in the making, whose items bring memory of their own -/
/-- blocks that are written no more -/
def Sealed (B : Nat) (wr : World) (I N : Value) (b : Nat) : Prop := B ≤ b ∧ b < wr.heap.size ∧ I.ownBlock ≠ some b ∧ N.ownBlock ≠ some b
def rdBox (kd : Int) (I N : Value) : Array Value := #[.int .i64 kd, .bool false, .int .i64 0, .string ByteArray.empty, .string ByteArray.empty, .string ByteArray.empty, I, N]
structure Rdg (W0 : World) (g O : Nat) (kd : Int) (L : List Val) (M : List ByteArray) (wr : World) : Prop where
  off : Off W0 wr (fun b => b = g ∨ b = O)
  rows : ∃ (I N : Value) (xs : List Value), wr.heap[O]? = some (.cells (rdBox kd I N) 27 (0, 0)) ∧ wr.ownsRow W0.heap.size 27 8 I L.length xs ∧ wr.ownsRow W0.heap.size 9 1 N M.length (M.map Value.string) ∧ Flat (Sealed W0.heap.size wr I N) wr L xs

section
variable {W0 wr w4 w5 : World} {g O : Nat} {kd : Int} {L : List Val} {M : List ByteArray} {I N R' : Value} {xs : List Value}
theorem Rdg.push_name {s : ByteArray} (h : Off W0 wr (fun b => b = g ∨ b = O)) (hgW : g < W0.heap.size) (hOW : O < W0.heap.size) (hI : wr.ownsRow W0.heap.size 27 8 I L.length xs) (hN : wr.ownsRow W0.heap.size 9 1 N M.length (M.map Value.string))
    (hf : Flat (Sealed W0.heap.size wr I N) wr L xs) (k : Off wr w4 (fun b => b = g ∨ N.ownBlock = some b)) (hR : w4.ownsRow W0.heap.size 9 1 R' (M.length + 1) (M.map Value.string ++ [.string s])) (hb : ∀ b, R'.ownBlock = some b → N.ownBlock = some b ∨ wr.heap.size ≤ b)
    (hO5 : w5.heap[O]? = some (.cells (rdBox kd I R') 27 (0, 0))) (g5 : GrownBy w4 w5 (some O)) : Rdg W0 g O kd L (M ++ [s]) w5 := by
  have hNb : ∀ b, N.ownBlock = some b → W0.heap.size ≤ b := fun b hb => (hN.lt b hb).1
  have o5 : Off w4 w5 (fun b => b = O) := Off.of_grown g5 fun b e => by injection e with e; exact e.symm
  have s1 := k.size
  have s2 := o5.size
  have s0 := h.size
  have same : ∀ b, W0.heap.size ≤ b → b < wr.heap.size → N.ownBlock ≠ some b → w5.heap[b]? = wr.heap[b]? := fun b h1 h2 h3 => by
    rw [o5.block b (by omega) (by omega), k.block b h2 (by rintro (e | e); omega; exact h3 e)]
  refine ⟨(h.fresh k fun b hb => ?_).trans (o5.mono fun b hb => .inr hb), I, R', xs, hO5, ?_, ?_, ?_⟩
  · rcases hb with hb | hb
    · exact .inl (.inl hb)
    · exact .inr (hNb b hb)
  · exact ownsRow_same hI fun b hb' => same b (hI.lt b hb').1 (hI.lt b hb').2 fun e => row_types hN hI (by decide) e hb'
  · have := ownsRow_same (w' := w5) hR fun b hb' => o5.block b (hR.lt b hb').2 (by have := (hR.lt b hb').1; omega)
    simpa using this
  · refine (hf.alike (w' := w5) fun b hb' => same b hb'.1 hb'.2.1 hb'.2.2.2).mono fun b hb' => ⟨hb'.1, by have := hb'.2.1; omega, hb'.2.2.1, fun e => ?_⟩
    rcases hb b e with h1 | h1
    · exact hb'.2.2.2 h1
    · have := hb'.2.1; omega
theorem Rdg.push_item {x : Val} {cs : List Value} {vs : Nat} (h : Off W0 wr (fun b => b = g ∨ b = O)) (hgW : g < W0.heap.size) (hOW : O < W0.heap.size) (hI : wr.ownsRow W0.heap.size 27 8 I L.length xs) (hN : wr.ownsRow W0.heap.size 9 1 N M.length (M.map Value.string))
    (hf : Flat (Sealed W0.heap.size wr I N) wr L xs) (k : Off wr w4 (fun b => b = g ∨ I.ownBlock = some b)) (hR : w4.ownsRow W0.heap.size 27 8 R' (L.length + 1) (xs ++ cs)) (hvs : wr.heap.size ≤ vs) (hv4 : vs ≤ w4.heap.size) (hb : ∀ b, R'.ownBlock = some b → I.ownBlock = some b ∨ vs ≤ b)
    (hx : Val.At (fun b => wr.heap.size ≤ b ∧ b < vs) w4 x cs) (hO5 : w5.heap[O]? = some (.cells (rdBox kd R' N) 27 (0, 0))) (g5 : GrownBy w4 w5 (some O)) : Rdg W0 g O kd (L ++ [x]) M w5 := by
  have hIb : ∀ b, I.ownBlock = some b → W0.heap.size ≤ b ∧ b < wr.heap.size := fun b hb => hI.lt b hb
  have hNb : ∀ b, N.ownBlock = some b → W0.heap.size ≤ b ∧ b < wr.heap.size := fun b hb => hN.lt b hb
  have o5 : Off w4 w5 (fun b => b = O) := Off.of_grown g5 fun b e => by injection e with e; exact e.symm
  have s1 := k.size
  have s2 := o5.size
  have s0 := h.size
  have same : ∀ b, W0.heap.size ≤ b → b < wr.heap.size → I.ownBlock ≠ some b → w5.heap[b]? = wr.heap[b]? := fun b h1 h2 h3 => by
    rw [o5.block b (by omega) (by omega), k.block b h2 (by rintro (e | e); omega; exact h3 e)]
  refine ⟨(h.fresh k fun b hb => ?_).trans (o5.mono fun b hb => .inr hb), R', N, xs ++ cs, hO5, ?_, ?_, ?_⟩
  · rcases hb with hb | hb
    · exact .inl (.inl hb)
    · exact .inr (hIb b hb).1
  · have := ownsRow_same (w' := w5) hR fun b hb' => o5.block b (hR.lt b hb').2 (by have := (hR.lt b hb').1; omega)
    simpa using this
  · exact ownsRow_same hN fun b hb' => same b (hNb b hb').1 (hNb b hb').2 fun e => row_types hI hN (by decide) e hb'
  · refine Flat.snoc ((hx.alike (w' := w5) fun b hb' => o5.block b (by omega) (by omega)).mono fun b hb' => ⟨by omega, by omega, fun e => ?_, fun e => by have := (hNb b e).2; omega⟩) ((hf.alike (w' := w5) fun b hb' => same b hb'.1 hb'.2.1 hb'.2.2.1).mono fun b hb' => ⟨hb'.1, by have := hb'.2.1; omega, fun e => ?_, hb'.2.2.2⟩)
    · rcases hb b e with h1 | h1
      · have := (hIb b h1).2; omega
      · omega
    · rcases hb b e with h1 | h1
      · exact hb'.2.2.1 h1
      · have := hb'.2.1; omega
theorem Rdg.fin (h : Rdg W0 g O kd L M wr) (hk : I64 kd) (hL : L.length ≤ 65537) (hM : M.length ≤ 65537) (hs : ∀ s ∈ M, s.size ≤ 65536) :
    ∃ cs : List Value, wr.heap[O]? = some (.cells cs.toArray 27 (0, 0)) ∧ Val.At (fun b => W0.heap.size ≤ b ∧ b < wr.heap.size) wr (.mk kd false 0 empty empty empty L M) cs := by
  obtain ⟨I, N, xs, hO, hI, hN, hf⟩ := h.rows
  have hv := own_vals (S' := fun b => W0.heap.size ≤ b ∧ b < wr.heap.size) hI hf (by rw [LIM_eq]; omega) (fun b hb => ⟨hb.1, hb.2.1⟩) fun b hb => hI.lt b hb
  have hn := own_strs (S := fun b => W0.heap.size ≤ b ∧ b < wr.heap.size) hN (by rw [LIM_eq]; omega) (fun s h => by have := hs s h; rw [maxLen_eq]; omega) fun b hb => hN.lt b hb
  obtain ⟨A, cap, rfl, h3, h4⟩ := hv
  have h0 : empty.size ≤ maxLen := by rw [maxLen_eq]; decide
  refine ⟨_, hO, ?_⟩
  unfold Val.At
  exact ⟨A, cap, N, rfl, ⟨hk, ⟨by omega, by omega⟩, h0, h0, h0⟩, h3, h4, hn⟩
end

/-- a name that is read, and put behind the others -/
def RtextR (v0 : World) (lim g B0 k : Nat) (N : Value) (ms : List Value) (bsk : List UInt8) (badk : Bool) (vs : List Value) (w : World) : Prop := match vs with
  | [] => Ext v0 w
  | [r] => ∃ (s : ByteArray) (bs' : List UInt8) (bad' : Bool), r = .string s ∧ Off v0 w (fun b => b = g) ∧ RdAt lim w g bs' bad' ∧ ReadsT bsk badk s bs' bad'
  | [r, bl] => ∃ (s : ByteArray) (bs' : List UInt8) (bad' : Bool) (b : Nat), r = .string s ∧ bl = .slice (some ⟨b, 0, none⟩) 1 1 ∧ CellsAt w b 0 [.string s] ∧ v0.heap.size ≤ b ∧ b < w.heap.size ∧ Off v0 w (fun b => b = g) ∧ RdAt lim w g bs' bad' ∧ ReadsT bsk badk s bs' bad'
  | [_, _, R'] => ∃ (s : ByteArray) (bs' : List UInt8) (bad' : Bool), Off v0 w (fun b => b = g ∨ N.ownBlock = some b) ∧ RdAt lim w g bs' bad' ∧ ReadsT bsk badk s bs' bad' ∧ w.ownsRow B0 9 1 R' (k + 1) (ms ++ [.string s]) ∧ (∀ b, R'.ownBlock = some b → N.ownBlock = some b ∨ v0.heap.size ≤ b)
  | _ => False
theorem RtextR.off {v0 : World} {lim g B0 k : Nat} {N : Value} {ms : List Value} {bsk : List UInt8} {badk : Bool} {vs : List Value} {w : World} (h : RtextR v0 lim g B0 k N ms bsk badk vs w) : Off v0 w (fun b => b = g ∨ N.ownBlock = some b) := by
  unfold RtextR at h
  split at h
  · exact Off.of_ext h _
  · obtain ⟨_, _, _, _, h, _⟩ := h; exact h.mono fun b hb => .inl hb
  · obtain ⟨_, _, _, _, _, _, _, _, _, h, _⟩ := h; exact h.mono fun b hb => .inl hb
  · obtain ⟨_, _, _, h, _⟩ := h; exact h
  · exact h.elim
/-- a value that is read, and put behind the others -/
def RvalR (v0 : World) (lim g B0 k m' : Nat) (I : Value) (xs : List Value) (bsk : List UInt8) (badk : Bool) (vs : List Value) (w : World) : Prop := match vs with
  | [] => Ext v0 w
  | [r] => ∃ (x : Val) (cs : List Value) (bs' : List UInt8) (bad' : Bool), r = .agg cs.toArray ∧ Off v0 w (fun b => b = g) ∧ RdAt lim w g bs' bad' ∧ Reads bsk badk m' x bs' bad' ∧ Val.At (fun b => v0.heap.size ≤ b ∧ b < w.heap.size) w x cs
  | [r, bl] => ∃ (x : Val) (cs : List Value) (bs' : List UInt8) (bad' : Bool) (b : Nat), r = .agg cs.toArray ∧ bl = .slice (some ⟨b, 0, none⟩) 1 1 ∧ CellsAt w b 0 cs ∧ v0.heap.size ≤ b ∧ b < w.heap.size ∧ Off v0 w (fun b => b = g) ∧ RdAt lim w g bs' bad' ∧ Reads bsk badk m' x bs' bad' ∧ Val.At (fun b' => v0.heap.size ≤ b' ∧ b' < b) w x cs
  | [_, _, R'] => ∃ (x : Val) (cs : List Value) (bs' : List UInt8) (bad' : Bool) (vx : Nat), v0.heap.size ≤ vx ∧ vx ≤ w.heap.size ∧ Off v0 w (fun b => b = g ∨ I.ownBlock = some b) ∧ RdAt lim w g bs' bad' ∧ Reads bsk badk m' x bs' bad' ∧ Val.At (fun b' => v0.heap.size ≤ b' ∧ b' < vx) w x cs ∧ w.ownsRow B0 27 8 R' (k + 1) (xs ++ cs) ∧ (∀ b, R'.ownBlock = some b → I.ownBlock = some b ∨ vx ≤ b)
  | _ => False
theorem RvalR.off {v0 : World} {lim g B0 k m' : Nat} {I : Value} {xs : List Value} {bsk : List UInt8} {badk : Bool} {vs : List Value} {w : World} (h : RvalR v0 lim g B0 k m' I xs bsk badk vs w) : Off v0 w (fun b => b = g ∨ I.ownBlock = some b) := by
  unfold RvalR at h
  split at h
  · exact Off.of_ext h _
  · obtain ⟨_, _, _, _, _, h, _⟩ := h; exact h.mono fun b hb => .inl hb
  · obtain ⟨_, _, _, _, _, _, _, _, _, _, h, _⟩ := h; exact h.mono fun b hb => .inl hb
  · obtain ⟨_, _, _, _, _, _, _, h, _⟩ := h; exact h
  · exact h.elim
theorem exec_addone {P : Program} {o : Oper} {a : Act} {w : World} {t t' : TypeId} {x : Operand} {d : Nat} (ho : o.op = .binOp .add t x (.const (.int .i64 1)) t') (hx : a.eval x = .int .i64 d) (hd : d ≤ 1000) : (execOp a.eval o).run P w = .ok (.value (.int .i64 ((d + 1 : Nat) : Int))) w := by
  have hw : IntKind.i64.wrap ((d : Int) + 1) = ((d + 1 : Nat) : Int) := by rw [show (d : Int) + 1 = ((d + 1 : Nat) : Int) by omega]; exact IntWalk.i64_in _ (by omega)
  have hc : a.eval (.const (.int .i64 1)) = .int .i64 1 := rfl
  unfold execOp
  simp only [ho, hx, hc]
  simp [go_sem, hw]
end Go.Proofs.Ytpkgkabcikmopaa
