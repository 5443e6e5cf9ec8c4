/-
  A statement that makes one row of a call's own longer by one, in an order that Go leaves open: operations that come to known values, a row of one, an append. The conditions: none (lemmas).
-/
import Derived.Test.YtpkgkabcikmopaaIns
namespace Go.Proofs.Ytpkgkabcikmopaa
open Go.RowKit

section one
variable (v0 : World) (base : Nat) (T : TypeId) (size : Nat) (R : Value) (k : Nat) (xs news : List Value) (vals : List Value)

/-- what each operation leaves: the known ones, the row of one, the append -/
def oneΦ (i : Nat) (x : Value) (w : World) : Prop :=
  if i < vals.length then x = vals.getD i undef else if i = vals.length then OneNew v0 news x w else Longer v0 base k T size R xs news x w
def oneT (i : Nat) (w w' : World) : Prop := if i ≤ vals.length then Ext w w' else GrownBy w w' R.ownBlock
def onePre (i : Nat) (w : World) : Prop := if i = vals.length + 1 then w.ownsRow base T size R k xs else True

theorem one_phi (hR : ∀ b, R.ownBlock = some b → b < v0.heap.size) (i j : Nat) (v : Value) (w w' : World) (hi : i < vals.length + 2) (hij : i ≠ j) (hj : j < vals.length + 2) (ht : oneT R vals j w w') (h : oneΦ v0 base T size R k xs news vals i v w) : oneΦ v0 base T size R k xs news vals i v w' := by
  unfold oneT at ht
  unfold oneΦ at h ⊢
  split at ht
  · split at h
    · rename_i h1; rw [if_pos h1]; exact h
    · rename_i h1
      rw [if_neg h1]
      split at h
      · rename_i h2; rw [if_pos h2]; exact OneNew.ext h ht
      · rename_i h2; rw [if_neg h2]; exact Longer.ext h ht
  · split at h
    · rename_i h1; rw [if_pos h1]; exact h
    · rename_i h1
      rw [if_neg h1]
      split at h
      · rename_i h2; rw [if_pos h2]; exact OneNew.grown h ht hR
      · exfalso; omega
theorem one_pre (i j : Nat) (w w' : World) (hij : i ≠ j) (hj : j < vals.length + 2) (ht : oneT R vals j w w') (h : onePre base T size R k xs vals i w) : onePre base T size R k xs vals i w' := by
  unfold oneT at ht
  unfold onePre at h ⊢
  split at h
  · rename_i h1
    rw [if_pos h1]
    rw [if_pos (by omega)] at ht
    exact ownsRow_ext h ht
  · rename_i h1; rw [if_neg h1]; trivial
end one

set_option maxRecDepth 100000 in
theorem one_region {l : List Oper} {id : Nat} {a0 : Act} {Q : Exit → Act → World → Prop} {w3 : World} {B : Nat} {T TS : TypeId} {size bytes : Nat} {R : Value} {k : Nat} {xs0 news vals : List Value} {it : TypeInfo} {z : Value} (n d q r : Nat)
    (hm : Try.prog.follows .mixedOrders = true) (hn : n = vals.length + 2) (hB : monoB l n = true)
    (hshape : ∀ i, i < n → ∃ o, l[i]? = some o ∧ o.dst = some (d + i) ∧ o.guard = none)
    (ht : Try.prog.underlying TS = some (.slice T)) (hti : Try.prog.info? T = some it) (hz : it.zero = some z) (hsize : it.size = size) (hby : it.bytes = bytes) (hzs : z.cells.size = size) (hsz : 0 < size)
    (hq : q < vals.length) (hr : r < vals.length) (hrv : vals.getD r undef = R)
    (hbuild : ∃ o, l[vals.length]? = some o ∧ o.op = .buildSlice TS 1 #[(0, .tmp (d + q))]) (happ : ∃ o, l[vals.length + 1]? = some o ∧ o.op = .call { callee := .builtin .append, args := #[.tmp (d + r), .tmp (d + vals.length)], argTypes := #[TS, TS] })
    (hw : waits l vals.length q = true ∧ waits l (vals.length + 1) r = true ∧ waits l (vals.length + 1) vals.length = true)
    (hbr : ∀ W : World, (Instr.buildSlice TS 1 #[(0, vals.getD q undef)]).run Try.prog W = .ok (.slice (some ⟨W.heap.size, 0, none⟩) 1 1) (W.alloc (.cells news.toArray T)))
    (hcl : news.length = size) (hco : ∀ v ∈ news, v.oneCell' = true)
    (hd : d + n ≤ a0.tmps.size) (hR : w3.ownsRow B T size R k xs0) (hBl : B ≤ w3.heap.size) (h63 : k + 1 ≤ maxLen) (hbk : (k + 1) * bytes ≤ 140737488355328)
    (hstep : ∀ i o, i < vals.length → l[i]? = some o → ∀ (xs : List Value) (w : World), TwoInv w3 R R w → (∀ t, t < d → (putAll a0 (l.take n) xs).eval (.tmp t) = a0.eval (.tmp t)) →
      (∀ j, j < vals.length → waits l i j = true → (putAll a0 (l.take n) xs).eval (.tmp (d + j)) = vals.getD j undef) →
      ∀ (Q : Exit → Act → World → Prop) (K : Act → World → Prop), (∀ w', Ext w w' → K ((putAll a0 (l.take n) xs).put o.dst (vals.getD i undef)) w') → o.wp Try.prog (putAll a0 (l.take n) xs) w K Q)
    (hQ : ∀ xs w, xs.length = n → TwoInv w3 R R w → (∀ i, i < vals.length → xs.getD i undef = vals.getD i undef) → Longer w3 B k T size R xs0 news (xs.getD (vals.length + 1) undef) w → wpList Try.prog l.toArray Q (l.drop n) (putAll a0 (l.take n) xs) w) : (Code.region id l.toArray true).wp Try.prog Q a0 w3 := by
  subst hn
  have hRl : ∀ b, R.ownBlock = some b → b < w3.heap.size := fun b hb => (hR.lt b hb).2
  have hdst : ∀ (i j : Nat) (p q : Oper), (l.take (vals.length + 2))[i]? = some p → (l.take (vals.length + 2))[j]? = some q → i < j → p.dst ≠ q.dst := fun i j p q hp hq hij => by
    rw [List.getElem?_take] at hp hq
    split at hp <;> split at hq <;> try (first | (cases hp; done) | (cases hq; done))
    rename_i h1 h2
    obtain ⟨o1, e1, d1, _⟩ := hshape i h1
    obtain ⟨o2, e2, d2, _⟩ := hshape j h2
    rw [e1] at hp; rw [e2] at hq
    cases hp; cases hq
    rw [d1, d2]
    intro e; injection e with e; omega
  have hln : (l.take (vals.length + 2)).length = vals.length + 2 := by
    obtain ⟨o, e, _⟩ := hshape (vals.length + 1) (by omega)
    have := (List.getElem?_eq_some_iff.1 e).1
    rw [List.length_take]; omega
  have hat : ∀ (xs : List Value) (i : Nat), xs.length = vals.length + 2 → i < vals.length + 2 → (putAll a0 (l.take (vals.length + 2)) xs).eval (.tmp (d + i)) = xs.getD i undef := fun xs i hx hi => by
    obtain ⟨o, e, d1, _⟩ := hshape i hi
    exact putAll_at _ xs a0 i o hdst (by rw [List.getElem?_take, if_pos hi]; exact e) d1 (by rw [hx, hln]) (Nat.lt_of_lt_of_le (Nat.add_lt_add_left hi d) hd)
  have hold : ∀ (xs : List Value) (t : Nat), t < d → (putAll a0 (l.take (vals.length + 2)) xs).eval (.tmp t) = a0.eval (.tmp t) := fun xs t ht => putAll_old _ xs a0 fun o ho => by
    obtain ⟨i, hi, rfl⟩ := List.getElem_of_mem ho
    obtain ⟨o', e, d1, _⟩ := hshape i (by rw [hln] at hi; exact hi)
    have : (l.take (vals.length + 2))[i]? = some (l.take (vals.length + 2))[i] := List.getElem?_eq_getElem hi
    rw [List.getElem?_take, if_pos (by rw [hln] at hi; exact hi), e] at this
    injection this with this
    rw [← this, d1]
    intro e; injection e with e; omega
  obtain ⟨wq, wr, wn⟩ := hw
  have lt1 : vals.length < vals.length + 2 := by omega
  refine region_mono (vals.length + 2) (TwoInv w3 R R) (oneT R vals) (onePre B T size R k xs0 vals) (oneΦ w3 B T size R k xs0 news vals) hm hB ⟨rfl, rfl, rfl, Nat.le_refl _, fun _ _ _ _ => rfl, Nat.le_succ _⟩ (fun i hi => ?_) (fun i o hi ho => ?_)
    (fun i j w w' _ hj hij _ _ ht h => one_pre B T size R k xs0 vals i j w w' hij hj ht h) (fun i j v w w' hi hj hij _ _ ht h => one_phi w3 B T size R k xs0 news vals hRl i j v w w' hi hij hj ht h) (fun i o xs w hi ho _ hun => ?_) (fun xs w hx hv hf => ?_)
  · unfold onePre; split
    · exact hR.drew
    · trivial
  · obtain ⟨o', e, hds, hgd⟩ := hshape i hi
    rw [e] at ho; injection ho with ho; subst ho
    intro xs W hlen hIv hP hf Q' K hK
    have hwant : Region.wanted o' (yielded l.toArray (putAll a0 (l.take (vals.length + 2)) xs).tmps) = true := by simp [Region.wanted, hgd]
    have hvat : ∀ j, j < vals.length → waits l i j = true → (putAll a0 (l.take (vals.length + 2)) xs).eval (.tmp (d + j)) = vals.getD j undef := fun j hj hwj => by
      rw [hat xs j hlen (by omega)]
      have := hf j (by omega) hwj
      unfold oneΦ at this
      rwa [if_pos hj] at this
    rcases Nat.lt_trichotomy i vals.length with h | h | h
    · rw [if_pos hwant]
      refine hstep i o' h e xs W hIv (fun t ht => hold xs t ht) hvat Q' K fun w' hw' => hK _ _ ?_ ?_ (TwoInv.ext w3 R R hIv hw')
      · unfold oneΦ; rw [if_pos h]
      · unfold oneT; rw [if_pos (by omega)]; exact hw'
    · subst h
      obtain ⟨ob, eb, hop⟩ := hbuild
      rw [e] at eb; injection eb with eb; subst eb
      refine step_value hgd (exec_build _ _ hop (hvat q hq wq) (hbr W)) (hK _ _ ?_ ?_ (TwoInv.ext w3 R R hIv ((Ext.refl W).alloc _)))
      · unfold oneΦ
        rw [if_neg (Nat.lt_irrefl _), if_pos rfl]
        exact ⟨W.heap.size, rfl, hIv.size, by simp, cellsAt_new _ _ rfl⟩
      · unfold oneT; rw [if_pos (Nat.le_refl _)]; exact (Ext.refl W).alloc _
    · have hie : i = vals.length + 1 := by omega
      subst hie
      obtain ⟨ob, eb, hop⟩ := happ
      rw [e] at eb; injection eb with eb; subst eb
      have h0 := hf vals.length lt1 wn
      unfold oneΦ at h0
      rw [if_neg (Nat.lt_irrefl _), if_pos rfl] at h0
      obtain ⟨b4, e4, g4, l4, c4⟩ := h0
      have hP' : W.ownsRow B T size R k xs0 := by unfold onePre at hP; rwa [if_pos rfl] at hP
      have e1 : (putAll a0 (l.take (vals.length + 2)) xs).eval (.tmp (d + r)) = R := (hvat r hr wr).trans hrv
      obtain ⟨v', w', hrun, ho', hg', hv'⟩ := exec_append_at (a := putAll a0 (l.take (vals.length + 2)) xs) (.tmp (d + r)) (.tmp (d + vals.length)) TS hop B T it z size bytes ht hti hz hsize hby hzs hsz R k xs0 e1 hP' b4 0 1 1 news ((hat xs vals.length hlen lt1).trans e4) (by rw [hcl]; omega) c4 hco h63 hbk (Nat.le_trans hBl hIv.size)
      refine step_value hgd hrun (hK _ _ ?_ ?_ (TwoInv.grownI w3 R R hIv hg'))
      · unfold oneΦ
        rw [if_neg (by omega), if_neg (by omega)]
        exact ⟨ho', hv'.imp (fun h => h) fun h b hb => by rw [h] at hb; injection hb with hb; have := hIv.size; omega⟩
      · unfold oneT; rw [if_neg (by omega)]; exact hg'
  · obtain ⟨o', e, _, hgd⟩ := hshape i hi
    rw [e] at ho; injection ho with ho; subst ho
    simp [Region.wanted, hgd] at hun
  · refine hQ xs w hx hv (fun i hi => ?_) ?_
    · have := hf i (by omega)
      unfold oneΦ at this
      rwa [if_pos hi] at this
    · have := hf (vals.length + 1) (by omega)
      unfold oneΦ at this
      rwa [if_neg (by omega), if_neg (by omega)] at this

/-- one operation of such a statement whose run is known -/
theorem wp_value {P : Program} {o : Oper} {a : Act} {w : World} {K : Act → World → Prop} {Q : Exit → Act → World → Prop} {v : Value} (hrun : (execOp a.eval o).run P w = .ok (.value v) w) (hk : ∀ w', Ext w w' → K (a.put o.dst v) w') : o.wp P a w K Q := by
  unfold Oper.wp
  rw [hrun]
  exact hk w (Ext.refl w)
/-- one call of such a statement -/
theorem wp_enter {P : Program} {o : Oper} {a : Act} {w : World} {K : Act → World → Prop} {Q : Exit → Act → World → Prop} {v : Value} {f : FuncId} {args : Array Value} (hrun : (execOp a.eval o).run P w = .ok (.enter f args) w)
    (hc : Calls P f args w fun e w' => e = .returned v ∧ Ext w w') (hk : ∀ w', Ext w w' → K (a.put o.dst v) w') : o.wp P a w K Q := by
  unfold Oper.wp
  rw [hrun]
  refine hc.mono ?_
  rintro e w' ⟨rfl, hx⟩
  exact hk w' hx

theorem wp_enter2 {P : Program} {o : Oper} {a : Act} {w : World} {K : Act → World → Prop} {Q : Exit → Act → World → Prop} {Φ : Value → World → Prop} {f : FuncId} {args : Array Value} (hrun : (execOp a.eval o).run P w = .ok (.enter f args) w)
    (hc : Calls P f args w fun e w' => ∃ v, e = .returned v ∧ Φ v w') (hk : ∀ v w', Φ v w' → K (a.put o.dst v) w') : o.wp P a w K Q := by
  unfold Oper.wp
  rw [hrun]
  refine hc.mono ?_
  rintro e w' ⟨v, rfl, hv⟩
  exact hk v w' hv
theorem wp_value2 {P : Program} {o : Oper} {a : Act} {w w' : World} {K : Act → World → Prop} {Q : Exit → Act → World → Prop} {v : Value} (hrun : (execOp a.eval o).run P w = .ok (.value v) w') (hk : K (a.put o.dst v) w') : o.wp P a w K Q := by
  unfold Oper.wp
  rw [hrun]
  exact hk
theorem wp_append_at {P : Program} {o : Oper} {a : Act} {w : World} {K : Act → World → Prop} {Q : Exit → Act → World → Prop} (s x : Operand) (t : TypeId)
    (ho : o.op = .call { callee := .builtin .append, args := #[s, x], argTypes := #[t, t] })
    (base : Nat) (e : TypeId) (i : TypeInfo) (z : Value) (size bytes : Nat) (ht : P.underlying t = some (.slice e)) (hi : P.info? e = some i) (hz : i.zero = some z)
    (hsize : i.size = size) (hby : i.bytes = bytes) (hzs : z.cells.size = size) (hsz : 0 < size)
    (v : Value) (n : Nat) (xs : List Value) (hs : a.eval s = v) (hown : w.ownsRow base e size v n xs)
    (b of m c : Nat) (news : List Value) (hx : a.eval x = .slice (some ⟨b, of, none⟩) m c) (hl : news.length = m * size) (hnews : CellsAt w b of news) (h1 : ∀ u ∈ news, u.oneCell' = true)
    (h63 : n + m ≤ maxLen) (hbytes : (n + m) * bytes ≤ 140737488355328) (hbase : base ≤ w.heap.size)
    (hk : ∀ v' w', w'.ownsRow base e size v' (n + m) (xs ++ news) → GrownBy w w' v.ownBlock → (v'.ownBlock = v.ownBlock ∨ v'.ownBlock = some w.heap.size) → K (a.put o.dst v') w') : o.wp P a w K Q := by
  obtain ⟨v', w', hrun, h2, h3, h4⟩ := exec_append_at (P := P) (o := o) (a := a) s x t ho base e i z size bytes ht hi hz hsize hby hzs hsz v n xs hs hown b of m c news hx hl hnews h1 h63 hbytes hbase
  unfold Oper.wp
  rw [hrun]
  exact hk v' w' h2 h3 h4
theorem exec_move {P : Program} {o : Oper} {a : Act} {w : World} {x : Operand} {v : Value} (ho : o.op = .move x) (hv : a.eval x = v) : (execOp a.eval o).run P w = .ok (.value v) w := by
  unfold execOp
  simp [ho, hv]
theorem exec_index {P : Program} {o : Oper} {a : Act} {w : World} {t : TypeId} {x y : Operand} {b off len cap i size : Nat} (ho : o.op = .indexAddr t x y) (hx : a.eval x = .slice (some ⟨b, off, none⟩) len cap) (hy : a.eval y = .int .i64 i) (ht : P.underlying t = some (.slice (P.elem t)))
    (hz : ∀ w, (Go.sizeOf (P.elem t)).run P w = .ok size w) (hi : i < len) : (execOp a.eval o).run P w = .ok (.value (.pointer (some ⟨b, off + i * size, none⟩))) w := by
  unfold execOp
  have h := run_indexAt_slice (P := P) w t ⟨b, off, none⟩ len cap .i64 (i : Int) ht
  rw [if_pos ⟨by omega, by omega⟩, hz w] at h
  have ha : (⟨b, off, none⟩ : Addr).add (i * size) = ⟨b, off + i * size, none⟩ := by
    unfold Addr.add
    by_cases h0 : i * size = 0
    · rw [h0]; simp
    · simp [h0]
  simp only [Int.toNat_natCast] at h
  simp [ho, hx, hy, h, ha]
theorem exec_extract {P : Program} {o : Oper} {a : Act} {w : World} {x : Operand} {i : Nat} {vs : Array Value} {v : Value} (ho : o.op = .extract x i) (hx : a.eval x = .tuple vs) (hi : vs[i]? = some v) : (execOp a.eval o).run P w = .ok (.value v) w := by
  unfold execOp
  simp [ho, hx, Instr.extract, hi]
theorem exec_alloc {P : Program} {o : Oper} {a : Act} {w w' : World} {t : TypeId} {v : Value} (ho : o.op = .alloc t) (hr : (Instr.alloc t true (.tuple #[])).run P w = .ok v w') : (execOp a.eval o).run P w = .ok (.value v) w' := by
  unfold execOp
  simp [ho, hr]
theorem Try.alloc27 : ∀ w, (Instr.alloc 27 true (.tuple #[])).run Try.prog w = .ok (.pointer (some ⟨w.heap.size, 0, none⟩)) (w.alloc (.cells zeroCells.toArray 27)) := by
  intro w; simp [Instr.alloc, go_sem, zeroCells]; rfl
/-- a struct stored over a whole block -/
theorem wpList_store_whole {P : Program} {ops : Array Oper} {rest : List Oper} {op : Oper} {a : Act} {w : World} {Q : Exit → Act → World → Prop} (hgd : op.guard = none) (ty : TypeId) (x y : Operand) (ho : op.op = .store ty x y)
    (g : Nat) (hx : a.eval x = .pointer (some ⟨g, 0, none⟩)) (cs : List Value) (hy : a.eval y = .agg cs.toArray) {n : Nat} (hz : ∀ w, (Go.sizeOf ty).run P w = .ok n w) (hn : cs.length = n)
    (T : TypeId) (cur : Array Value) (hg : w.heap[g]? = some (.cells cur T (0, 0))) (hl : cs.length = cur.size) (h1 : ∀ v ∈ cs, v.oneCell' = true)
    (hk : ∀ w', w' = w.setRow g cs.toArray → wpList P ops Q rest (a.put op.dst undef) w') : wpList P ops Q (op :: rest) a w := by
  refine wpList_store_cells hgd ty x y ho g 0 hx cs hy hz hn T cur hg (by omega) h1 (hk _ ?_)
  rw [List.take_zero, List.nil_append, Nat.zero_add, List.drop_eq_nil_of_le (by rw [hl]; simp), List.append_nil]
theorem exec_store_whole {P : Program} {o : Oper} {a : Act} {w : World} {ty : TypeId} {x y : Operand} (ho : o.op = .store ty x y) {g : Nat} (hx : a.eval x = .pointer (some ⟨g, 0, none⟩)) {cs : List Value} (hy : a.eval y = .agg cs.toArray) {n : Nat} (hz : ∀ w, (Go.sizeOf ty).run P w = .ok n w) (hn : cs.length = n)
    {T : TypeId} {cur : Array Value} (hg : w.heap[g]? = some (.cells cur T (0, 0))) (hl : cs.length = cur.size) (h1 : ∀ v ∈ cs, v.oneCell' = true) : (execOp a.eval o).run P w = .ok .skip (w.setRow g cs.toArray) := by
  have hst := run_storeCells_at (P := P) g 0 T cs 0 cur w hg (by omega) h1
  simp only [Nat.add_zero] at hst
  have hst' : (storeVar ty ⟨g, 0, none⟩ (.agg cs.toArray)).run P w = .ok () (w.setRow g cs.toArray) := by
    rw [List.take_zero, List.nil_append, Nat.zero_add, List.drop_eq_nil_of_le (by rw [hl]; simp), List.append_nil] at hst
    simp [storeVar, hz, Value.cells, hn, hst]
  unfold execOp
  simp only [ho, hx, hy, Instr.storeAt, Instr.sureAddr, Sem.run_bind, Sem.run_pure, Result.andThen_ok, hst']
theorem map_one {f : Operand → Value} {x : Operand} {v : Value} (h : f x = v) : #[x].map f = #[v] := by simp [h]
theorem map_two {f : Operand → Value} {x y : Operand} {v u : Value} (h : f x = v) (k : f y = u) : #[x, y].map f = #[v, u] := by simp [h, k]
theorem exec_call {P : Program} {o : Oper} {a : Act} {w : World} {f : FuncId} {fn : Func} {xs : Array Operand} {ts : Array TypeId} {args : Array Value} (hf : P.funcs[f]? = some fn) (hname : (fn.name == "runtime.NumGoroutine") = false) (hb : fn.body.isNone = false)
    (ho : o.op = .call { callee := .value (.func f), args := xs, argTypes := ts }) (hx : xs.map a.eval = args) : (execOp a.eval o).run P w = .ok (.enter f args) w := by
  have hname' : ¬ fn.name = "runtime.NumGoroutine" := by simpa using hname
  have hb' : ¬ fn.body = none := fun e => by rw [e] at hb; cases hb
  have hc : (callFunc f args).run P w = .ok (.enter f args) w := by
    simp [callFunc, hf, hname', hb']
  unfold execOp
  simp [ho, resolve, invoke, hx, Act.eval, Deferred.ofValue, hc]

/-- operations of any kind that only add to memory, in an order that Go leaves open: each leaves what is said of it -/
theorem ext_region {P : Program} {l : List Oper} {id : Nat} {a0 : Act} {Q : Exit → Act → World → Prop} {w3 : World} (n : Nat) (ds : List Tmp) (Φ : Nat → Value → World → Prop)
    (hm : P.follows .mixedOrders = true) (hB : monoB l n = true) (hdl : ds.length = n) (hdn : ds.Nodup)
    (hshape : ∀ i, i < n → ∃ o, l[i]? = some o ∧ o.dst = some (ds.getD i 0) ∧ o.guard = none) (hd : ∀ t ∈ ds, t < a0.tmps.size)
    (hst : ∀ i v w w', i < n → Ext w w' → Φ i v w → Φ i v w')
    (hstep : ∀ i o, i < n → l[i]? = some o → ∀ (xs : List Value) (w : World), Ext w3 w → (∀ t, t ∉ ds → (putAll a0 (l.take n) xs).eval (.tmp t) = a0.eval (.tmp t)) →
      (∀ j, j < n → waits l i j = true → Φ j ((putAll a0 (l.take n) xs).eval (.tmp (ds.getD j 0))) w) →
      ∀ (Q : Exit → Act → World → Prop) (K : Act → World → Prop), (∀ v w', Ext w w' → Φ i v w' → K ((putAll a0 (l.take n) xs).put o.dst v) w') → o.wp P (putAll a0 (l.take n) xs) w K Q)
    (hQ : ∀ xs w, xs.length = n → Ext w3 w → (∀ i, i < n → Φ i (xs.getD i undef) w) → wpList P l.toArray Q (l.drop n) (putAll a0 (l.take n) xs) w) : (Code.region id l.toArray true).wp P Q a0 w3 := by
  have hln : (l.take n).length = n := by
    simp only [monoB, Bool.and_eq_true, decide_eq_true_eq] at hB
    rw [List.length_take]; have := hB.1.1.1.1; omega
  have hdst : ∀ (i j : Nat) (p q : Oper), (l.take n)[i]? = some p → (l.take n)[j]? = some q → i < j → p.dst ≠ q.dst := fun i j p q hp hq hij => by
    rw [List.getElem?_take] at hp hq
    split at hp <;> split at hq <;> try (first | (cases hp; done) | (cases hq; done))
    rename_i h1 h2
    obtain ⟨o1, e1, d1, _⟩ := hshape i h1
    obtain ⟨o2, e2, d2, _⟩ := hshape j h2
    rw [e1] at hp; rw [e2] at hq
    cases hp; cases hq
    rw [d1, d2]
    intro e; injection e with e
    have hi' : i < ds.length := by omega
    have hj' : j < ds.length := by omega
    rw [List.getD_eq_getElem?_getD, List.getD_eq_getElem?_getD, List.getElem?_eq_getElem hi', List.getElem?_eq_getElem hj'] at e
    rw [List.nodup_iff_pairwise_ne, List.pairwise_iff_getElem] at hdn
    exact hdn i j hi' hj' hij e
  have hmem : ∀ i, i < n → ds.getD i 0 ∈ ds := fun i hi => by
    have hi' : i < ds.length := by omega
    rw [List.getD_eq_getElem?_getD, List.getElem?_eq_getElem hi']
    exact List.getElem_mem hi'
  have hat : ∀ (xs : List Value) (i : Nat), xs.length = n → i < n → (putAll a0 (l.take n) xs).eval (.tmp (ds.getD i 0)) = xs.getD i undef := fun xs i hx hi => by
    obtain ⟨o, e, d1, _⟩ := hshape i hi
    exact putAll_at _ xs a0 i o hdst (by rw [List.getElem?_take, if_pos hi]; exact e) d1 (by rw [hx, hln]) (hd _ (hmem i hi))
  have hold : ∀ (xs : List Value) (t : Nat), t ∉ ds → (putAll a0 (l.take n) xs).eval (.tmp t) = a0.eval (.tmp t) := fun xs t ht => putAll_old _ xs a0 fun o ho => by
    obtain ⟨i, hi, rfl⟩ := List.getElem_of_mem ho
    rw [hln] at hi
    obtain ⟨o', e, d1, _⟩ := hshape i hi
    have : (l.take n)[i]? = some (l.take n)[i] := List.getElem?_eq_getElem (by rw [hln]; exact hi)
    rw [List.getElem?_take, if_pos hi, e] at this
    injection this with this
    rw [← this, d1]
    intro e; injection e with e
    exact ht (e ▸ hmem i hi)
  refine region_mono n (fun w => Ext w3 w) (fun _ w w' => Ext w w') (fun _ _ => True) Φ hm hB ⟨⟨rfl, rfl, rfl, Nat.le_refl _, fun _ _ => rfl⟩, Nat.le_succ _⟩ (fun _ _ => trivial) (fun i o hi ho => ?_)
    (fun _ _ _ _ _ _ _ _ _ _ h => h) (fun i j v w w' hi _ _ _ _ ht h => hst i v w w' hi ht h) (fun i o xs w hi ho _ hun => ?_) (fun xs w hx hv hf => hQ xs w hx hv hf)
  · obtain ⟨o', e, hds, hgd⟩ := hshape i hi
    rw [e] at ho; injection ho with ho; subst ho
    intro xs W hlen hIv _ hf Q' K hK
    rw [if_pos (by simp [Region.wanted, hgd])]
    exact hstep i o' hi e xs W hIv (fun t ht => hold xs t ht) (fun j hj hwj => by rw [hat xs j hlen hj]; exact hf j hj hwj) Q' K fun v w' hw' hv => hK v w' hv hw' (hIv.trans hw')
  · obtain ⟨o', e, _, hgd⟩ := hshape i hi
    rw [e] at ho; injection ho with ho; subst ho
    simp [Region.wanted, hgd] at hun
/-- one operation of such a statement whose run is known -/
theorem wp_leaves {P : Program} {o : Oper} {a : Act} {w w1 : World} {K : Act → World → Prop} {Q : Exit → Act → World → Prop} {Φ : Value → World → Prop} {v : Value} (hrun : (execOp a.eval o).run P w = .ok (.value v) w1) (hx : Ext w w1) (hv : Φ v w1) (hk : ∀ v w', Ext w w' → Φ v w' → K (a.put o.dst v) w') : o.wp P a w K Q := by
  unfold Oper.wp
  rw [hrun]
  exact hk v w1 hx hv
theorem wp_enters {P : Program} {o : Oper} {a : Act} {w : World} {K : Act → World → Prop} {Q : Exit → Act → World → Prop} {Φ : Value → World → Prop} {f : FuncId} {args : Array Value} (hrun : (execOp a.eval o).run P w = .ok (.enter f args) w)
    (hc : Calls P f args w fun e w' => ∃ v, e = .returned v ∧ Ext w w' ∧ Φ v w') (hk : ∀ v w', Ext w w' → Φ v w' → K (a.put o.dst v) w') : o.wp P a w K Q := by
  unfold Oper.wp
  rw [hrun]
  refine hc.mono ?_
  rintro e w' ⟨v, rfl, hx, hv⟩
  exact hk v w' hx hv
end Go.Proofs.Ytpkgkabcikmopaa
