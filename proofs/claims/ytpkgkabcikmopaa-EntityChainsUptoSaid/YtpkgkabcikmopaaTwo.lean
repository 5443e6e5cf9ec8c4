/-
  A statement that makes two rows of a call's own longer by one, in an order that Go leaves open: what each operation leaves. The conditions: none (definitions and lemmas).
-/
import Derived.Test.YtpkgkabcikmopaaItems
import Derived.Test.YtpkgkabcikmopaaCompact
import Derived.Test.YtpkgkabcikmopaaMono
namespace Go.Proofs.Ytpkgkabcikmopaa
open Go.RowKit

/-- one operation whose run is known -/
theorem step_value {P : Program} {o : Oper} {a : Act} {w w' : World} {K : Act → World → Prop} {Q : Exit → Act → World → Prop} {ops : Array Oper} {v : Value} (hg : o.guard = none) (hrun : (execOp a.eval o).run P w = .ok (.value v) w') (hk : K (a.put o.dst v) w') :
    if Region.wanted o (yielded ops a.tmps) then o.wp P a w K Q else K (a.put o.dst undef) w := by
  rw [if_pos (by simp [Region.wanted, hg])]
  unfold Oper.wp
  rw [hrun]
  exact hk

/-- append onto a row of the call's own, as a run -/
theorem exec_append_at {P : Program} {o : Oper} {a : Act} {w : World} (s x : Operand) (t : TypeId)
    (ho : o.op = .call { callee := .builtin .append, args := #[s, x], argTypes := #[t, t] })
    (base : Nat) (e : TypeId) (i : TypeInfo) (z : Value) (size bytes : Nat) (ht : P.underlying t = some (.slice e)) (hi : P.info? e = some i) (hz : i.zero = some z)
    (hsize : i.size = size) (hby : i.bytes = bytes) (hzs : z.cells.size = size) (hsz : 0 < size)
    (v : Value) (n : Nat) (xs : List Value) (hs : a.eval s = v) (hown : w.ownsRow base e size v n xs)
    (b of m c : Nat) (news : List Value) (hx : a.eval x = .slice (some ⟨b, of, none⟩) m c) (hl : news.length = m * size) (hnews : CellsAt w b of news) (h1 : ∀ u ∈ news, u.oneCell' = true)
    (h63 : n + m ≤ maxLen) (hbytes : (n + m) * bytes ≤ 140737488355328) (hbase : base ≤ w.heap.size) :
    ∃ v' w', (execOp a.eval o).run P w = .ok (.value v') w' ∧ w'.ownsRow base e size v' (n + m) (xs ++ news) ∧ GrownBy w w' v.ownBlock ∧ (v'.ownBlock = v.ownBlock ∨ v'.ownBlock = some w.heap.size) := by
  obtain ⟨v', w', hrun, h2, h3, _, h4⟩ := run_append_own_at (P := P) w base t o.type e i z size bytes ht hi hz hsize hby hzs hsz v n xs hown ⟨b, of, none⟩ m c news hl (cell_add hnews) h1 h63 hbytes hbase
  refine ⟨v', w', ?_, h2, ⟨h3, run_drawn _ _ _ _ hrun⟩, h4⟩
  unfold execOp
  simp only [ho, resolve, invoke, builtin, Sem.run_bind, Sem.run_pure, Result.andThen_ok, List.map_toArray, List.map_cons, List.map_nil, hs, hx, hrun]

theorem exec_load_cells {P : Program} {o : Oper} {a : Act} {w : World} (ty : TypeId) (x : Operand) (ho : o.op = .load ty x)
    (b off : Nat) (hx : a.eval x = .pointer (some ⟨b, off, none⟩)) {cs : List Value} {n : Nat} (hA : ∀ w, (isAgg ty).run P w = .ok true w) (hz : ∀ w, (Go.sizeOf ty).run P w = .ok n w) (hn : cs.length = n)
    (h : CellsAt w b off cs) : (execOp a.eval o).run P w = .ok (.value (.agg cs.toArray)) w := by
  unfold execOp
  simp only [ho, hx, Instr.loadAt, Instr.sureAddr, Sem.run_bind, Sem.run_pure, Result.andThen_ok, run_loadVar_cells hA hz hn h]

theorem ownsRow_apart {w w' : World} {base : Nat} {e : TypeId} {size : Nat} {v : Value} {n : Nat} {xs : List Value} {r : Option Nat} (h : w.ownsRow base e size v n xs) (k : GrownBy w w' r) (hr : ∀ b, v.ownBlock = some b → r ≠ some b) : w'.ownsRow base e size v n xs := by
  obtain ⟨h1, h2⟩ := h
  refine ⟨h1, ?_⟩
  rcases h2 with h2 | ⟨g, cap, cur, hv, hg, hh, q⟩
  · exact .inl h2
  · refine .inr ⟨g, cap, cur, hv, hg, (k.block _ (Blk_lt hh) fun e => ?_).trans hh, q⟩
    exact hr g (by rw [hv]; rfl) e.symm

section two
variable (v0 : World) (base O F : Nat) (I N : Value) (k : Nat) (xsI xsN : List Value) (nm : ByteArray) (cs : List Value)

/-- the row made longer -/
def Longer (T : TypeId) (size : Nat) (R : Value) (xs news : List Value) (x : Value) (w : World) : Prop :=
  w.ownsRow base T size x (k + 1) (xs ++ news) ∧ (x.ownBlock = R.ownBlock ∨ ∀ b, x.ownBlock = some b → v0.heap.size ≤ b)
/-- a row of one, new -/
def OneNew (cs : List Value) (x : Value) (w : World) : Prop := ∃ b, x = .slice (some ⟨b, 0, none⟩) 1 1 ∧ v0.heap.size ≤ b ∧ b < w.heap.size ∧ CellsAt w b 0 cs

def twoΦ : Nat → Value → World → Prop
  | 0, x, _ => x = .pointer (some ⟨O, 7, none⟩)
  | 1, x, _ => x = N
  | 2, x, _ => x = .pointer (some ⟨F, 0, none⟩)
  | 3, x, _ => x = .string nm
  | 4, x, w => OneNew v0 [.string nm] x w
  | 5, x, w => Longer v0 base k 9 1 N xsN [.string nm] x w
  | 6, x, _ => x = .pointer (some ⟨O, 6, none⟩)
  | 7, x, _ => x = I
  | 8, x, _ => x = .pointer (some ⟨F, 1, none⟩)
  | 9, x, _ => x = .agg cs.toArray
  | 10, x, w => OneNew v0 cs x w
  | 11, x, w => Longer v0 base k 27 8 I xsI cs x w
  | 12, x, _ => x = .pointer (some ⟨O, 7, none⟩)
  | _, _, _ => True
def twoT : Nat → World → World → Prop
  | 4, w, w' => Ext w w'
  | 10, w, w' => Ext w w'
  | 5, w, w' => GrownBy w w' N.ownBlock
  | 11, w, w' => GrownBy w w' I.ownBlock
  | _, w, w' => w' = w
def twoPre : Nat → World → Prop
  | 5, w => w.ownsRow base 9 1 N k xsN
  | 11, w => w.ownsRow base 27 8 I k xsI
  | _, _ => True
/-- all but the two rows are as they were -/
structure TwoInv (w : World) : Prop where
  os : w.os = v0.os
  tape : w.tape = v0.tape
  output : w.output = v0.output
  size : v0.heap.size ≤ w.heap.size
  block : ∀ b, b < v0.heap.size → I.ownBlock ≠ some b → N.ownBlock ≠ some b → w.heap[b]? = v0.heap[b]?
  drawn : v0.drawn ≤ w.drawn

theorem OneNew.ext {v0 w w' : World} {cs : List Value} {x : Value} (h : OneNew v0 cs x w) (k : Ext w w') : OneNew v0 cs x w' := by
  obtain ⟨b, h1, h2, h3, h4⟩ := h
  exact ⟨b, h1, h2, Nat.lt_of_lt_of_le h3 k.size, h4.alike (S := fun c => c < w.heap.size) h3 (Alike.of_ext k fun _ h => h)⟩
theorem OneNew.grown {v0 w w' : World} {cs : List Value} {x : Value} {r : Option Nat} (h : OneNew v0 cs x w) (k : GrownBy w w' r) (hr : ∀ b, r = some b → b < v0.heap.size) : OneNew v0 cs x w' := by
  obtain ⟨b, h1, h2, h3, h4⟩ := h
  refine ⟨b, h1, h2, Nat.lt_of_lt_of_le h3 k.size, fun j v hj => ?_⟩
  exact (World.cell?_of_block (w := w) (a := ⟨b, 0 + j, none⟩) (k.block b h3 (fun e => by have := hr b e.symm; omega))).trans (h4 j v hj)
theorem Longer.ext {v0 : World} {base k : Nat} {T : TypeId} {size : Nat} {R x : Value} {xs news : List Value} {w w' : World} (h : Longer v0 base k T size R xs news x w) (e : Ext w w') : Longer v0 base k T size R xs news x w' := ⟨ownsRow_ext h.1 e, h.2⟩
theorem Longer.grown {v0 : World} {base k : Nat} {T : TypeId} {size : Nat} {R x : Value} {xs news : List Value} {w w' : World} {r : Option Nat} (h : Longer v0 base k T size R xs news x w) (e : GrownBy w w' r) (hr : ∀ b, r = some b → b < v0.heap.size) (hR : ∀ b, R.ownBlock = some b → r ≠ some b) :
    Longer v0 base k T size R xs news x w' :=
  ⟨ownsRow_apart h.1 e fun b hb hrb => by
    rcases h.2 with h2 | h2
    · exact hR b (h2 ▸ hb) hrb
    · have := h2 b hb; have := hr b hrb; omega, h.2⟩

theorem two_phi (hI : ∀ b, I.ownBlock = some b → b < v0.heap.size) (hN : ∀ b, N.ownBlock = some b → b < v0.heap.size) (hne : ∀ b, I.ownBlock = some b → N.ownBlock ≠ some b) (i j : Nat) (v : Value) (w w' : World) (hij : i ≠ j) (ht : twoT I N j w w')
    (h : twoΦ v0 base O F I N k xsI xsN nm cs i v w) : twoΦ v0 base O F I N k xsI xsN nm cs i v w' := by
  unfold twoT at ht
  have hne' : ∀ b, N.ownBlock = some b → I.ownBlock ≠ some b := fun b h1 h2 => hne b h2 h1
  split at ht <;> first
    | (subst ht; exact h)
    | (unfold twoΦ at h ⊢; split at h <;> first | exact h | exact OneNew.ext h ht | exact Longer.ext h ht | (exact absurd rfl hij) | exact OneNew.grown h ht hN | exact OneNew.grown h ht hI | exact Longer.grown h ht hN hne | exact Longer.grown h ht hI hne')

theorem two_pre (hne : ∀ b, I.ownBlock = some b → N.ownBlock ≠ some b) (i j : Nat) (w w' : World) (hij : i ≠ j) (ht : twoT I N j w w') (h : twoPre base I N k xsI xsN i w) : twoPre base I N k xsI xsN i w' := by
  unfold twoT at ht
  have hne' : ∀ b, N.ownBlock = some b → I.ownBlock ≠ some b := fun b h1 h2 => hne b h2 h1
  split at ht <;> first
    | (subst ht; exact h)
    | (unfold twoPre at h ⊢; split at h <;> first | exact h | exact ownsRow_ext h ht | (exact absurd rfl hij) | exact ownsRow_apart h ht hne | exact ownsRow_apart h ht hne')

theorem TwoInv.ext {w w' : World} (h : TwoInv v0 I N w) (e : Ext w w') : TwoInv v0 I N w' :=
  ⟨e.os.trans h.os, e.tape.trans h.tape, e.output.trans h.output, Nat.le_trans h.size e.size, fun b hb h1 h2 => (e.block b (Nat.lt_of_lt_of_le hb h.size)).trans (h.block b hb h1 h2), Nat.le_trans h.drawn e.drawn⟩
theorem TwoInv.grownI {w w' : World} (h : TwoInv v0 I N w) (e : GrownBy w w' I.ownBlock) : TwoInv v0 I N w' :=
  ⟨e.os.trans h.os, e.tape.trans h.tape, e.output.trans h.output, Nat.le_trans h.size e.size, fun b hb h1 h2 => (e.block b (Nat.lt_of_lt_of_le hb h.size) (fun e => h1 e.symm)).trans (h.block b hb h1 h2), Nat.le_trans h.drawn e.drawn⟩
theorem TwoInv.grownN {w w' : World} (h : TwoInv v0 I N w) (e : GrownBy w w' N.ownBlock) : TwoInv v0 I N w' :=
  ⟨e.os.trans h.os, e.tape.trans h.tape, e.output.trans h.output, Nat.le_trans h.size e.size, fun b hb h1 h2 => (e.block b (Nat.lt_of_lt_of_le hb h.size) (fun e => h2 e.symm)).trans (h.block b hb h1 h2), Nat.le_trans h.drawn e.drawn⟩
end two

/-! ### the slots behind a list of results -/
theorem Act.eval_put_ne {a : Act} {d : Option Tmp} {v : Value} {t : Tmp} (h : d ≠ some t) : (a.put d v).eval (.tmp t) = a.eval (.tmp t) := by
  cases d with
  | none => rfl
  | some d =>
    have hd : d ≠ t := fun e => h (by rw [e])
    simp [Act.put, Act.eval, hd]
theorem Act.eval_put_same {a : Act} {v : Value} {t : Tmp} (h : t < a.tmps.size) : (a.put (some t) v).eval (.tmp t) = v := by
  simp [Act.put, Act.eval, h]
theorem Act.size_put {a : Act} {d : Option Tmp} {v : Value} : (a.put d v).tmps.size = a.tmps.size := by
  cases d <;> simp [Act.put]
theorem putAll_old {t : Tmp} : ∀ (l : List Oper) (xs : List Value) (a : Act), (∀ o ∈ l, o.dst ≠ some t) → (putAll a l xs).eval (.tmp t) = a.eval (.tmp t)
  | [], _, _, _ => by simp [putAll]
  | _ :: _, [], _, _ => by simp [putAll]
  | o :: r, x :: s, a, h => by
    rw [putAll, putAll_old r s _ fun p hp => h p (by simp [hp]), Act.eval_put_ne (h o (by simp))]
theorem putAll_at {t : Tmp} : ∀ (l : List Oper) (xs : List Value) (a : Act) (i : Nat) (o : Oper), (∀ (i j : Nat) (p q : Oper), l[i]? = some p → l[j]? = some q → i < j → p.dst ≠ q.dst) → l[i]? = some o → o.dst = some t → xs.length = l.length → t < a.tmps.size →
    (putAll a l xs).eval (.tmp t) = xs.getD i undef
  | [], _, _, _, _, _, h, _, _, _ => by simp at h
  | _ :: _, [], _, _, _, _, _, _, h, _ => by simp at h
  | p :: r, x :: s, a, 0, o, hd, h, ho, hl, ht => by
    simp at h; subst h
    rw [putAll, putAll_old, ho, Act.eval_put_same ht]
    · rfl
    · intro q hq
      obtain ⟨j, hj, rfl⟩ := List.getElem_of_mem hq
      rw [← ho]
      exact (hd 0 (j + 1) p r[j] rfl (by simp [hj]) (by omega)).symm
  | p :: r, x :: s, a, i + 1, o, hd, h, ho, hl, ht => by
    rw [putAll, putAll_at r s _ i o (fun i j p q hi hj hij => hd (i + 1) (j + 1) p q (by simpa using hi) (by simpa using hj) (by omega)) (by simpa using h) ho (by simpa using hl) (by rw [Act.size_put]; exact ht)]
    simp

/-- the thirteen operations of 'x.Names, x.Items = append(x.Names, f.Name), append(x.Items, f.Item)' ahead of the stores: x in slot tO, f in slot tF, the results from slot d on -/
def twoOps (tO tF d : Nat) : Nat → Op
  | 0 => .fieldAddr 27 (.tmp tO) 6
  | 1 => .load 25 (.tmp d)
  | 2 => .fieldAddr 124 (.tmp tF) 0
  | 3 => .load 9 (.tmp (d + 2))
  | 4 => .buildSlice 25 1 #[(0, .tmp (d + 3))]
  | 5 => .call { callee := .builtin .append, args := #[.tmp (d + 1), .tmp (d + 4)], argTypes := #[25, 25] }
  | 6 => .fieldAddr 27 (.tmp tO) 5
  | 7 => .load 24 (.tmp (d + 6))
  | 8 => .fieldAddr 124 (.tmp tF) 1
  | 9 => .load 27 (.tmp (d + 8))
  | 10 => .buildSlice 24 1 #[(0, .tmp (d + 9))]
  | 11 => .call { callee := .builtin .append, args := #[.tmp (d + 7), .tmp (d + 10)], argTypes := #[24, 24] }
  | _ => .fieldAddr 27 (.tmp tO) 6

theorem Try.field27 (O : Nat) : (∀ w, (Instr.fieldAt 27 (.pointer (some ⟨O, 0, none⟩)) 6).run Try.prog w = .ok (.pointer (some ⟨O, 7, none⟩)) w) ∧ (∀ w, (Instr.fieldAt 27 (.pointer (some ⟨O, 0, none⟩)) 5).run Try.prog w = .ok (.pointer (some ⟨O, 6, none⟩)) w) ∧
    (∀ w, (Instr.fieldAt 124 (.pointer (some ⟨O, 0, none⟩)) 0).run Try.prog w = .ok (.pointer (some ⟨O, 0, none⟩)) w) ∧ (∀ w, (Instr.fieldAt 124 (.pointer (some ⟨O, 0, none⟩)) 1).run Try.prog w = .ok (.pointer (some ⟨O, 1, none⟩)) w) := by
  refine ⟨fun w => ?_, fun w => ?_, fun w => ?_, fun w => ?_⟩ <;> simp [Instr.fieldAt, go_sem]
theorem Try.build25 (s : ByteArray) : ∀ w, (Instr.buildSlice 25 1 #[(0, .string s)]).run Try.prog w = .ok (.slice (some ⟨w.heap.size, 0, none⟩) 1 1) (w.alloc (.cells #[.string s] 9)) := by
  intro w; simp [Instr.buildSlice, go_sem]
theorem Try.build24 (v0 v1 v2 v3 v4 v5 v6 v7 : Value) : ∀ w, (Instr.buildSlice 24 1 #[(0, .agg #[v0, v1, v2, v3, v4, v5, v6, v7])]).run Try.prog w = .ok (.slice (some ⟨w.heap.size, 0, none⟩) 1 1) (w.alloc (.cells #[v0, v1, v2, v3, v4, v5, v6, v7] 27)) := by
  intro w; simp [Instr.buildSlice, go_sem]
theorem exec_load_one {P : Program} {o : Oper} {a : Act} {w : World} (ty : TypeId) (x : Operand) (ho : o.op = .load ty x) (b off : Nat) (hx : a.eval x = .pointer (some ⟨b, off, none⟩)) (hA : ∀ w, (isAgg ty).run P w = .ok false w) {v : Value}
    (hc : w.cell? ⟨b, off, none⟩ = some v) : (execOp a.eval o).run P w = .ok (.value v) w := by
  unfold execOp
  simp [ho, hx, Instr.loadAt, Instr.sureAddr, loadVar, hA, load, Sem.run, hc]

theorem exec_field {P : Program} {o : Oper} {a : Act} {w : World} (ty : TypeId) (x : Operand) (f : Nat) (ho : o.op = .fieldAddr ty x f) {v v' : Value} (hx : a.eval x = v) (hf : ∀ w, (Instr.fieldAt ty v f).run P w = .ok v' w) :
    (execOp a.eval o).run P w = .ok (.value v') w := by
  unfold execOp
  simp [ho, hx, hf]

theorem exec_build {P : Program} {o : Oper} {a : Act} {w w' : World} (ty : TypeId) (x : Operand) (ho : o.op = .buildSlice ty 1 #[(0, x)]) {v v' : Value} (hx : a.eval x = v) (hf : (Instr.buildSlice ty 1 #[(0, v)]).run P w = .ok v' w') :
    (execOp a.eval o).run P w = .ok (.value v') w' := by
  unfold execOp
  simp [ho, hx, hf]

theorem Try.agg25 : ∀ w, (isAgg 25).run Try.prog w = .ok false w := fun _ => by kernel_rfl
theorem Try.agg24 : ∀ w, (isAgg 24).run Try.prog w = .ok false w := fun _ => by kernel_rfl
theorem Try.agg9 : ∀ w, (isAgg 9).run Try.prog w = .ok false w := fun _ => by kernel_rfl
theorem Try.info9 : (Try.prog.info? 9).map (fun i => (i.zero, i.size, i.bytes)) = some (some (.string ByteArray.empty), 1, 16) := by kernel_rfl

theorem row_types {w : World} {B B' : Nat} {T T' : TypeId} {n n' k k' : Nat} {v v' : Value} {xs xs' : List Value} (h : w.ownsRow B T n v k xs) (h' : w.ownsRow B' T' n' v' k' xs') (hT : T ≠ T') {b : Nat} (hb : v.ownBlock = some b) (hb' : v'.ownBlock = some b) : False := by
  rcases h.2 with ⟨rfl, _⟩ | ⟨g, cap, cur, rfl, _, hh, _⟩
  · cases hb
  · rcases h'.2 with ⟨rfl, _⟩ | ⟨g', cap', cur', rfl, _, hh', _⟩
    · cases hb'
    · have e1 : g = b := by injection hb
      have e2 : g' = b := by injection hb'
      subst e1; subst e2
      rw [hh] at hh'
      injection hh' with hh'
      injection hh' with _ h2
      exact hT h2

set_option maxRecDepth 100000 in
theorem two_region {l : List Oper} {id : Nat} {a0 : Act} {Q : Exit → Act → World → Prop} {w3 : World} {B O F : Nat} {I N : Value} {k : Nat} {xsI xsN : List Value} {nm : ByteArray} {cs : List Value} (tO tF d : Nat)
    (hm : Try.prog.follows .mixedOrders = true) (hB : monoB l 13 = true)
    (hshape : ∀ i, i < 13 → ∃ o, l[i]? = some o ∧ o.op = twoOps tO tF d i ∧ o.dst = some (d + i) ∧ o.guard = none)
    (hw : waits l 1 0 = true ∧ waits l 3 2 = true ∧ waits l 4 3 = true ∧ waits l 5 1 = true ∧ waits l 5 4 = true ∧ waits l 7 6 = true ∧ waits l 9 8 = true ∧ waits l 10 9 = true ∧ waits l 11 7 = true ∧ waits l 11 10 = true)
    (hd : d + 13 ≤ a0.tmps.size) (htO : tO < d) (htF : tF < d) (hO : a0.eval (.tmp tO) = .pointer (some ⟨O, 0, none⟩)) (hF : a0.eval (.tmp tF) = .pointer (some ⟨F, 0, none⟩))
    (cN : w3.cell? ⟨O, 7, none⟩ = some N) (cI : w3.cell? ⟨O, 6, none⟩ = some I) (cF : CellsAt w3 F 0 (.string nm :: cs)) (hcl : cs.length = 8) (hco : ∀ v ∈ cs, v.oneCell' = true) (lO : O < w3.heap.size) (lF : F < w3.heap.size)
    (nO : ∀ b, b = O → I.ownBlock ≠ some b ∧ N.ownBlock ≠ some b) (nF : ∀ b, b = F → I.ownBlock ≠ some b ∧ N.ownBlock ≠ some b)
    (hI : w3.ownsRow B 27 8 I k xsI) (hN : w3.ownsRow B 9 1 N k xsN) (hne : ∀ b, I.ownBlock = some b → N.ownBlock ≠ some b) (hBl : B ≤ w3.heap.size) (hk : k + 1 ≤ 1048576)
    (hQ : ∀ xs w, xs.length = 13 → TwoInv w3 I N w → Longer w3 B k 9 1 N xsN [.string nm] (xs.getD 5 undef) w → Longer w3 B k 27 8 I xsI cs (xs.getD 11 undef) w → xs.getD 12 undef = .pointer (some ⟨O, 7, none⟩) →
      (∀ b, (xs.getD 5 undef).ownBlock = some b → (xs.getD 11 undef).ownBlock ≠ some b) → wpList Try.prog l.toArray Q (l.drop 13) (putAll a0 (l.take 13) xs) w) : (Code.region id l.toArray true).wp Try.prog Q a0 w3 := by
  have hIl : ∀ b, I.ownBlock = some b → b < w3.heap.size := fun b hb => (hI.lt b hb).2
  have hNl : ∀ b, N.ownBlock = some b → b < w3.heap.size := fun b hb => (hN.lt b hb).2
  obtain ⟨i27, hi27, hz27, hs27, hb27⟩ := info_parts Try.info27
  obtain ⟨i9, hi9, hz9, hs9, hb9⟩ := info_parts Try.info9
  have hdst : ∀ (i j : Nat) (p q : Oper), (l.take 13)[i]? = some p → (l.take 13)[j]? = some q → i < j → p.dst ≠ q.dst := fun i j p q hp hq hij => by
    rw [List.getElem?_take] at hp hq
    split at hp <;> split at hq <;> try (first | (cases hp; done) | (cases hq; done))
    rename_i h1 h2
    obtain ⟨o1, e1, _, d1, _⟩ := hshape i h1
    obtain ⟨o2, e2, _, d2, _⟩ := hshape j h2
    rw [e1] at hp; rw [e2] at hq
    cases hp; cases hq
    rw [d1, d2]
    intro e; injection e with e; omega
  have hln : (l.take 13).length = 13 := by
    obtain ⟨o, e, _⟩ := hshape 12 (by omega)
    have := (List.getElem?_eq_some_iff.1 e).1
    rw [List.length_take]; omega
  -- what a slot holds
  have hat : ∀ (xs : List Value) (i : Nat), xs.length = 13 → i < 13 → (putAll a0 (l.take 13) xs).eval (.tmp (d + i)) = xs.getD i undef := fun xs i hx hi => by
    obtain ⟨o, e, _, d1, _⟩ := hshape i hi
    exact putAll_at _ xs a0 i o hdst (by rw [List.getElem?_take, if_pos hi]; exact e) d1 (by rw [hx, hln]) (Nat.lt_of_lt_of_le (Nat.add_lt_add_left hi d) hd)
  have hold : ∀ (xs : List Value) (t : Nat), t < d → (putAll a0 (l.take 13) xs).eval (.tmp t) = a0.eval (.tmp t) := fun xs t ht => putAll_old _ xs a0 fun o ho => by
    obtain ⟨i, hi, rfl⟩ := List.getElem_of_mem ho
    obtain ⟨o', e, _, d1, _⟩ := hshape i (by rw [hln] at hi; exact hi)
    have : (l.take 13)[i]? = some (l.take 13)[i] := List.getElem?_eq_getElem hi
    rw [List.getElem?_take, if_pos (by rw [hln] at hi; exact hi), e] at this
    injection this with this
    rw [← this, d1]
    intro e; injection e with e; omega
  obtain ⟨w10, w32, w43, w51, w54, w76, w98, wA9, wB7, wBA⟩ := hw
  refine region_mono 13 (TwoInv w3 I N) (twoT I N) (twoPre B I N k xsI xsN) (twoΦ w3 B O F I N k xsI xsN nm cs) hm hB ⟨rfl, rfl, rfl, Nat.le_refl _, fun _ _ _ _ => rfl, Nat.le_succ _⟩ (fun i hi => ?_) (fun i o hi ho => ?_)
    (fun i j w w' _ _ hij _ _ ht h => two_pre B I N k xsI _ hne i j w w' hij ht h) (fun i j v w w' _ _ hij _ _ ht h => two_phi w3 B O F I N k xsI xsN nm cs hIl hNl hne i j v w w' hij ht h) (fun i o xs w hi ho _ hun => ?_) (fun xs w hx hv hf => ?_)
  · rcases (by omega : i = 5 ∨ i = 11 ∨ (i ≠ 5 ∧ i ≠ 11)) with rfl | rfl | ⟨h1, h2⟩
    · exact hN.drew
    · exact hI.drew
    · unfold twoPre; split <;> first | trivial | (exact absurd rfl h1) | (exact absurd rfl h2)
  · obtain ⟨o', e, hop, hds, hgd⟩ := hshape i hi
    rw [e] at ho; injection ho with ho; subst ho
    intro xs W hlen hIv hP hf Q' K hK
    have cO : ∀ j u, w3.cell? ⟨O, j, none⟩ = some u → W.cell? ⟨O, j, none⟩ = some u := fun j u h => (World.cell?_of_block (a := ⟨O, j, none⟩) (hIv.block O lO (nO O rfl).1 (nO O rfl).2)).trans h
    have cF' : ∀ j u, w3.cell? ⟨F, j, none⟩ = some u → W.cell? ⟨F, j, none⟩ = some u := fun j u h => (World.cell?_of_block (a := ⟨F, j, none⟩) (hIv.block F lF (nF F rfl).1 (nF F rfl).2)).trans h
    rcases (by omega : i = 0 ∨ i = 1 ∨ i = 2 ∨ i = 3 ∨ i = 4 ∨ i = 5 ∨ i = 6 ∨ i = 7 ∨ i = 8 ∨ i = 9 ∨ i = 10 ∨ i = 11 ∨ i = 12) with rfl | rfl | rfl | rfl | rfl | rfl | rfl | rfl | rfl | rfl | rfl | rfl | rfl
    · exact step_value hgd (exec_field _ _ _ hop ((hold xs tO htO).trans hO) (Try.field27 O).1) (hK _ _ rfl rfl hIv)
    · exact step_value hgd (exec_load_one _ _ hop O 7 ((hat xs 0 hlen (by omega)).trans (hf 0 (by omega) w10)) Try.agg25 (cO 7 N cN)) (hK _ _ rfl rfl hIv)
    · exact step_value hgd (exec_field _ _ _ hop ((hold xs tF htF).trans hF) (Try.field27 F).2.2.1) (hK _ _ rfl rfl hIv)
    · exact step_value hgd (exec_load_one _ _ hop F 0 ((hat xs 2 hlen (by omega)).trans (hf 2 (by omega) w32)) Try.agg9 (cF' 0 (.string nm) (by simpa using cF 0 _ rfl))) (hK _ _ rfl rfl hIv)
    · exact step_value hgd (exec_build _ _ hop ((hat xs 3 hlen (by omega)).trans (hf 3 (by omega) w43)) (Try.build25 nm W)) (hK _ _ ⟨W.heap.size, rfl, hIv.size, by simp, cellsAt_new _ _ rfl⟩ ((Ext.refl W).alloc _) (TwoInv.ext w3 I N hIv ((Ext.refl W).alloc _)))
    · obtain ⟨b4, e4, g4, l4, c4⟩ := hf 4 (by omega) w54
      have e1 : xs.getD 1 undef = N := hf 1 (by omega) w51
      obtain ⟨v', w', hrun, ho', hg', hv'⟩ := exec_append_at (a := putAll a0 (l.take 13) xs) (.tmp (d + 1)) (.tmp (d + 4)) 25 hop B 9 i9 (.string ByteArray.empty) 1 16 Try.underlying25 hi9 hz9 hs9 hb9 rfl (by decide) N k xsN ((hat xs 1 hlen (by omega)).trans e1) hP b4 0 1 1 [.string nm] ((hat xs 4 hlen (by omega)).trans e4) rfl c4
        (by intro u hu; simp at hu; subst hu; rfl) (by rw [maxLen_eq]; omega) (by omega) (Nat.le_trans hBl hIv.size)
      exact step_value hgd hrun (hK _ _ ⟨ho', hv'.imp (fun h => h) fun h b hb => by rw [h] at hb; injection hb with hb; have := hIv.size; omega⟩ hg' (TwoInv.grownN w3 I N hIv hg'))
    · exact step_value hgd (exec_field _ _ _ hop ((hold xs tO htO).trans hO) (Try.field27 O).2.1) (hK _ _ rfl rfl hIv)
    · exact step_value hgd (exec_load_one _ _ hop O 6 ((hat xs 6 hlen (by omega)).trans (hf 6 (by omega) w76)) Try.agg24 (cO 6 I cI)) (hK _ _ rfl rfl hIv)
    · exact step_value hgd (exec_field _ _ _ hop ((hold xs tF htF).trans hF) (Try.field27 F).2.2.2) (hK _ _ rfl rfl hIv)
    · exact step_value hgd (exec_load_cells _ _ hop F 1 ((hat xs 8 hlen (by omega)).trans (hf 8 (by omega) w98)) Try.agg27 Try.size27 hcl (fun j u hj => cF' _ _ (by rw [Nat.add_comm]; simpa using cF (j + 1) u (by simpa using hj)))) (hK _ _ rfl rfl hIv)
    · obtain ⟨v0, v1, v2, v3, v4, v5, v6, v7, rfl⟩ : ∃ v0 v1 v2 v3 v4 v5 v6 v7, cs = [v0, v1, v2, v3, v4, v5, v6, v7] := by
        match cs, hcl with
        | [_, _, _, _, _, _, _, _], _ => exact ⟨_, _, _, _, _, _, _, _, rfl⟩
      exact step_value hgd (exec_build _ _ hop ((hat xs 9 hlen (by omega)).trans (hf 9 (by omega) wA9)) (Try.build24 v0 v1 v2 v3 v4 v5 v6 v7 W)) (hK _ _ ⟨W.heap.size, rfl, hIv.size, by simp, cellsAt_new _ _ rfl⟩ ((Ext.refl W).alloc _) (TwoInv.ext w3 I N hIv ((Ext.refl W).alloc _)))
    · obtain ⟨b4, e4, g4, l4, c4⟩ := hf 10 (by omega) wBA
      have e1 : xs.getD 7 undef = I := hf 7 (by omega) wB7
      obtain ⟨v', w', hrun, ho', hg', hv'⟩ := exec_append_at (a := putAll a0 (l.take 13) xs) (.tmp (d + 7)) (.tmp (d + 10)) 24 hop B 27 i27 (.agg zeroCells.toArray) 8 120 Try.underlying24 hi27 hz27 hs27 hb27 rfl (by decide) I k xsI ((hat xs 7 hlen (by omega)).trans e1) hP b4 0 1 1 cs ((hat xs 10 hlen (by omega)).trans e4) (by rw [hcl]) c4
        hco (by rw [maxLen_eq]; omega) (by omega) (Nat.le_trans hBl hIv.size)
      exact step_value hgd hrun (hK _ _ ⟨ho', hv'.imp (fun h => h) fun h b hb => by rw [h] at hb; injection hb with hb; have := hIv.size; omega⟩ hg' (TwoInv.grownI w3 I N hIv hg'))
    · exact step_value hgd (exec_field _ _ _ hop ((hold xs tO htO).trans hO) (Try.field27 O).1) (hK _ _ rfl rfl hIv)
  · obtain ⟨o', e, _, _, hgd⟩ := hshape i hi
    rw [e] at ho; injection ho with ho; subst ho
    simp [Region.wanted, hgd] at hun
  · have h5 : Longer w3 B k 9 1 N xsN [.string nm] (xs.getD 5 undef) w := hf 5 (by omega)
    have h11 : Longer w3 B k 27 8 I xsI cs (xs.getD 11 undef) w := hf 11 (by omega)
    refine hQ xs w hx hv h5 h11 (hf 12 (by omega)) fun b hb1 hb2 => ?_
    exact row_types h5.1 h11.1 (by decide) hb1 hb2
theorem list13 {α : Type} {l : List α} (h : l.length = 13) : ∃ a0 a1 a2 a3 a4 a5 a6 a7 a8 a9 a10 a11 a12, l = [a0, a1, a2, a3, a4, a5, a6, a7, a8, a9, a10, a11, a12] := by
  match l, h with
  | [_, _, _, _, _, _, _, _, _, _, _, _, _], _ => exact ⟨_, _, _, _, _, _, _, _, _, _, _, _, _, rfl⟩
theorem Ext.setRow {w w' : World} (h : Ext w w') {g : Nat} (hg : w.heap.size ≤ g) (cs : Array Value) : Ext w (w'.setRow g cs) := by
  refine ⟨⟨h.os, h.tape, h.output, by simpa [World.setRow] using h.size, fun b hb => ?_⟩, h.drawn⟩
  have := (GrownBy.setRow w' g cs).block b (Nat.lt_of_lt_of_le hb h.size) (fun e => by injection e with e; omega)
  exact this.trans (h.block b hb)

/-- a result that lies in a cell, and one beside it -/
theorem results_cell {P : Program} {fn : Func} {tmps : Array Value} {w : World} {a t : Tmp} {T : TypeId} {g n : Nat} {cs : List Value} (h : fn.results = #[.cell a T, .tmp t]) (hp : tmps.getD a undef = .pointer (some ⟨g, 0, none⟩))
    (hA : ∀ w, (isAgg T).run P w = .ok true w) (hz : ∀ w, (Go.sizeOf T).run P w = .ok n w) (hn : cs.length = n) (hc : CellsAt w g 0 cs) : (results fn tmps).run P w = .ok (.tuple #[.agg cs.toArray, tmps.getD t undef]) w := by
  have hp' : tmps[a]?.getD undef = .pointer (some ⟨g, 0, none⟩) := by simpa using hp
  simp [results, h, hp', asAddr, run_loadVar_cells hA hz hn hc]

theorem results_one {P : Program} {fn : Func} {tmps : Array Value} {w : World} {a : Tmp} {T : TypeId} {g n : Nat} {cs : List Value} (h : fn.results = #[.cell a T]) (hp : tmps.getD a undef = .pointer (some ⟨g, 0, none⟩))
    (hA : ∀ w, (isAgg T).run P w = .ok true w) (hz : ∀ w, (Go.sizeOf T).run P w = .ok n w) (hn : cs.length = n) (hc : CellsAt w g 0 cs) : (results fn tmps).run P w = .ok (.agg cs.toArray) w := by
  have hp' : tmps[a]?.getD undef = .pointer (some ⟨g, 0, none⟩) := by simpa using hp
  simp [results, h, hp', asAddr, run_loadVar_cells hA hz hn hc]
theorem cellsAt_setRow {w : World} {g : Nat} {cur : Array Value} {T : TypeId} (h : w.heap[g]? = some (.cells cur T (0, 0))) {cs : List Value} {l : List Value} (hl : l = cs) : CellsAt (w.setRow g l.toArray) g 0 cs := fun j v hj => by
  subst hl
  rw [cell_of_row _ _ _ _ _ _ (heap_setRow h _), Nat.zero_add]; simpa using hj
/-- one cell of a known block, stored -/
theorem heap_setCell_at {w : World} {g : Nat} {cur : Array Value} {T : TypeId} {fz : Nat × Nat} (h : w.heap[g]? = some (.cells cur T fz)) (j : Nat) (v : Value) : (w.setCell ⟨g, j, none⟩ v).heap[g]? = some (.cells (cur.setIfInBounds j v) T fz) := by
  simp [World.setCell, Array.getElem?_modify, h]
theorem GrownBy.setCell (w : World) (g j : Nat) (v : Value) : GrownBy w (w.setCell ⟨g, j, none⟩ v) (some g) :=
  ⟨⟨rfl, rfl, rfl, by simp [World.setCell], fun b _ hb => Below.heap_setCell w ⟨g, j, none⟩ v b (fun e => hb (by rw [e]))⟩, Nat.le_refl _⟩
theorem own_shape {w : World} {base : Nat} {e : TypeId} {size n : Nat} {v : Value} {xs : List Value} (h : w.ownsRow base e size v n xs) : ∃ A cap, v = .slice A n cap := by
  rcases h.2 with ⟨rfl, rfl⟩ | ⟨g, cap, cur, rfl, _⟩
  · exact ⟨none, 0, rfl⟩
  · exact ⟨_, cap, rfl⟩
theorem own_strs {S : Nat → Prop} {w : World} {base : Nat} {e : TypeId} {v : Value} {l : List ByteArray} (h : w.ownsRow base e 1 v l.length (l.map Value.string)) (hl : l.length ≤ LIM) (hs : ∀ s ∈ l, s.size ≤ maxLen)
    (h2 : ∀ b, v.ownBlock = some b → S b) : StrsAt S w l v := by
  obtain ⟨hx, hv⟩ := h
  rcases hv with ⟨rfl, hn⟩ | ⟨g, cap, cur, rfl, hg, hh, hnc, hcm, hcur, htake⟩
  · exact ⟨none, 0, by rw [hn], hl, by omega, by rw [maxLen_eq]; omega, hs, by omega⟩
  · refine ⟨_, cap, rfl, hl, hnc, hcm, hs, fun hn => ⟨g, 0, rfl, h2 g rfl, fun j u hj => ?_⟩⟩
    rw [cell_of_row _ _ _ _ _ _ hh, Nat.zero_add]
    rw [← htake, List.getElem?_take] at hj
    split at hj
    · simpa using hj
    · cases hj

end Go.Proofs.Ytpkgkabcikmopaa
