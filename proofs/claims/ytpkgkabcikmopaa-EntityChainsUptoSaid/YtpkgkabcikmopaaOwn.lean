/-
  Rows that a call has made itself: appended to, read as values. The conditions: none (definitions and lemmas).
-/
import Derived.Test.YtpkgkabcikmopaaCan
import Derived.Maps.AppendAt
namespace Go.Proofs.Ytpkgkabcikmopaa
open Go.RowKit

theorem cell_add {w : World} {b o : Nat} {cs : List Value} (h : CellsAt w b o cs) : ∀ j u, cs[j]? = some u → w.cell? ((⟨b, o, none⟩ : Addr).add j) = some u := fun j u hj => by
  have := h j u hj
  unfold Addr.add
  by_cases h0 : j = 0
  · subst h0; simpa using this
  · simpa [h0] using this

/-- what an append leaves -/
structure GrownBy (w w' : World) (row : Option Nat) : Prop extends w.grownBy w' row where
  drawn : w.drawn ≤ w'.drawn

/-- append onto a row of the call's own -/
theorem wpList_append_at {P : Program} {ops : Array Oper} {rest : List Oper} {o : Oper} {a : Act} {Q : Exit → Act → World → Prop} {w : World} (hgd : o.guard = none) (s x : Operand) (t : TypeId)
    (ho : o.op = .call { callee := .builtin .append, args := #[s, x], argTypes := #[t, t] })
    (base : Nat) (e : TypeId) (i : TypeInfo) (z : Value) (size bytes : Nat) (ht : P.underlying t = some (.slice e)) (hi : P.info? e = some i) (hz : i.zero = some z)
    (hsize : i.size = size) (hby : i.bytes = bytes) (hzs : z.cells.size = size) (hsz : 0 < size)
    (v : Value) (n : Nat) (xs : List Value) (hs : a.eval s = v) (hown : w.ownsRow base e size v n xs)
    (b of m c : Nat) (news : List Value) (hx : a.eval x = .slice (some ⟨b, of, none⟩) m c) (hl : news.length = m * size) (hnews : CellsAt w b of news) (h1 : ∀ u ∈ news, u.oneCell' = true)
    (h63 : n + m ≤ maxLen) (hbytes : (n + m) * bytes ≤ 140737488355328) (hbase : base ≤ w.heap.size)
    (h : ∀ v' w', w'.ownsRow base e size v' (n + m) (xs ++ news) → GrownBy w w' v.ownBlock → (v'.ownBlock = v.ownBlock ∨ v'.ownBlock = some w.heap.size) → wpList P ops Q rest (a.put o.dst v') w') : wpList P ops Q (o :: rest) a w :=
  wpList_plain hgd fun K hK => by
    obtain ⟨v', w', hrun, h2, h3, _, h4⟩ := run_append_own_at (P := P) w base t o.type e i z size bytes ht hi hz hsize hby hzs hsz v n xs hown ⟨b, of, none⟩ m c news hl (cell_add hnews) h1 h63 hbytes hbase
    unfold Oper.wp execOp
    simp only [ho, resolve, invoke, builtin, Sem.run_bind, Sem.run_pure, Result.andThen_ok, List.map_toArray, List.map_cons, List.map_nil, hs, hx, hrun]
    exact hK _ _ (h v' w' h2 ⟨h3, run_drawn _ _ _ _ hrun⟩ h4)

/-- cells that stand for values, one behind the other -/
def Flat (S : Nat → Prop) (w : World) : List Val → List Value → Prop
  | [], xs => xs = []
  | v :: r, xs => ∃ cs ys, xs = cs ++ ys ∧ Val.At S w v cs ∧ Flat S w r ys

theorem Flat.snoc {S : Nat → Prop} {w : World} {x : Val} {cs : List Value} (hx : Val.At S w x cs) : ∀ {l : List Val} {xs : List Value}, Flat S w l xs → Flat S w (l ++ [x]) (xs ++ cs)
  | [], xs, h => by
    simp only [Flat] at h; subst h
    exact ⟨cs, [], by simp, hx, rfl⟩
  | v :: r, xs, h => by
    obtain ⟨c, ys, rfl, hv, hr⟩ := h
    exact ⟨c, ys ++ cs, by simp, hv, Flat.snoc hx hr⟩
theorem Flat.alike {S : Nat → Prop} {w w' : World} (k : Alike S w w') : ∀ {l : List Val} {xs : List Value}, Flat S w l xs → Flat S w' l xs
  | [], _, h => h
  | _ :: _, _, ⟨c, ys, e, hv, hr⟩ => ⟨c, ys, e, hv.alike k, Flat.alike k hr⟩
theorem Flat.mono {S S' : Nat → Prop} {w : World} (k : ∀ b, S b → S' b) : ∀ {l : List Val} {xs : List Value}, Flat S w l xs → Flat S' w l xs
  | [], _, h => h
  | _ :: _, _, ⟨c, ys, e, hv, hr⟩ => ⟨c, ys, e, hv.mono k, Flat.mono k hr⟩
theorem Flat.length {S : Nat → Prop} {w : World} : ∀ {l : List Val} {xs : List Value}, Flat S w l xs → xs.length = l.length * 8
  | [], _, h => by simp only [Flat] at h; subst h; rfl
  | _ :: r, _, ⟨c, ys, e, hv, hr⟩ => by
    subst e
    have := hv.length
    have := Flat.length hr
    simp; omega
theorem Flat.get {S : Nat → Prop} {w : World} : ∀ {l : List Val} {xs : List Value} {i : Nat} {x : Val}, Flat S w l xs → l[i]? = some x → ∃ cs, cs.length = 8 ∧ Val.At S w x cs ∧ ∀ j v, cs[j]? = some v → xs[i * 8 + j]? = some v
  | [], _, _, _, _, h => by simp at h
  | v :: r, _, 0, x, ⟨c, ys, e, hv, hr⟩, h => by
    simp at h; subst h; subst e
    refine ⟨c, hv.length, hv, fun j u hj => ?_⟩
    rw [List.getElem?_append_left (by simpa using (List.getElem?_eq_some_iff.1 hj).1)]
    simpa using hj
  | v :: r, _, i + 1, x, ⟨c, ys, e, hv, hr⟩, h => by
    subst e
    obtain ⟨cs, h1, h2, h3⟩ := Flat.get hr (i := i) (x := x) (by simpa using h)
    refine ⟨cs, h1, h2, fun j u hj => ?_⟩
    have := hv.length
    rw [List.getElem?_append_right (by omega), show (i + 1) * 8 + j - c.length = i * 8 + j from by omega]
    exact h3 j u hj

/-- the blocks that a call has made, but for one -/
def Made (base : Nat) (w : World) (v : Value) (b : Nat) : Prop := base ≤ b ∧ b < w.heap.size ∧ v.ownBlock ≠ some b
/-- the blocks that a call has made -/
def Fresh (base : Nat) (w : World) (b : Nat) : Prop := base ≤ b ∧ b < w.heap.size

theorem Fresh.lt {base : Nat} {w : World} : ∀ b, Fresh base w b → b < w.heap.size := fun _ h => h.2
theorem Fresh.mono {base base' : Nat} {w w' : World} (h1 : base' ≤ base) (h2 : w.heap.size ≤ w'.heap.size) : ∀ b, Fresh base w b → Fresh base' w' b := fun _ h => ⟨by have := h.1; omega, by have := h.2; omega⟩

theorem ownsRow_ext {w w' : World} {base : Nat} {e : TypeId} {size : Nat} {v : Value} {n : Nat} {xs : List Value} (h : w.ownsRow base e size v n xs) (k : Ext w w') : w'.ownsRow base e size v n xs := by
  obtain ⟨h1, h2⟩ := h
  refine ⟨h1, ?_⟩
  rcases h2 with h2 | ⟨g, cap, cur, hv, hg, hh, r⟩
  · exact .inl h2
  · exact .inr ⟨g, cap, cur, hv, hg, (k.block _ (Blk_lt hh)).trans hh, r⟩

/-- an owned row of values is a slice of values -/
theorem own_vals {S S' : Nat → Prop} {w : World} {base : Nat} {e : TypeId} {v : Value} {l : List Val} {xs : List Value} (h : w.ownsRow base e 8 v l.length xs) (hf : Flat S w l xs) (hl : l.length ≤ LIM)
    (h1 : ∀ b, S b → S' b) (h2 : ∀ b, v.ownBlock = some b → S' b) : ValsAt S' w l v := by
  obtain ⟨hx, hv⟩ := h
  rcases hv with ⟨rfl, hn⟩ | ⟨g, cap, cur, rfl, hg, hh, hnc, hcm, hcur, htake⟩
  · exact ⟨none, 0, by rw [hn], ⟨hl, by omega, by simp⟩, by omega⟩
  · refine ⟨_, cap, rfl, ⟨hl, hnc, hcm⟩, fun hn => ⟨g, 0, rfl, h2 g rfl, Val.RowAt.mk fun i x hix => ?_⟩⟩
    obtain ⟨cs, c1, c2, c3⟩ := hf.get hix
    refine ⟨cs, c1, fun j u hj => ?_, c2.mono h1⟩
    have h3 := c3 j u hj
    rw [cell_of_row _ _ _ _ _ _ hh]
    rw [← htake] at h3
    rw [List.getElem?_take] at h3
    split at h3
    · rw [show 0 + i * 8 + j = i * 8 + j from by omega]
      simpa using h3
    · cases h3

theorem cellsAt_new {w : World} {b : Nat} (T : TypeId) (cs : List Value) (hb : b = w.heap.size) : CellsAt (w.alloc (.cells cs.toArray T)) b 0 cs := fun j v hj => by
  subst hb
  rw [cell_of_row _ _ _ _ _ _ (heap_alloc_new w _)]; simpa using hj

/-- one value more behind a row of the call's own -/
theorem flat_step {base : Nat} {wr w1 W2 w2 : World} {e : TypeId} {u v' : Value} {n c0 : Nat} {ys : List Val} {xs cs : List Value} {y : Val} (hown : wr.ownsRow base e 8 u n xs) (hf : Flat (Made base wr u) wr ys xs)
    (h1 : Ext wr w1) (h2 : Ext w1 W2) (hc0 : wr.heap.size ≤ c0) (hb : base ≤ wr.heap.size) (hy : Val.At (Fresh c0 w1) w1 y cs) (hg : GrownBy W2 w2 u.ownBlock) (hv : v'.ownBlock = u.ownBlock ∨ v'.ownBlock = some W2.heap.size) :
    Flat (Made base w2 v') w2 (ys ++ [y]) (xs ++ cs) := by
  have hlt := hown.lt
  have s1 := h1.size
  have s2 := h2.size
  have s3 := hg.size
  refine Flat.snoc ?_ ?_
  · refine (hy.alike (w' := w2) fun b hbf => ?_).mono fun b hbf => ?_
    · obtain ⟨hb1, hb2⟩ := hbf
      rw [hg.block b (by omega) (fun e => by have := hlt b e.symm; omega), h2.block b hb2]
    · obtain ⟨hb1, hb2⟩ := hbf
      refine ⟨by omega, by omega, fun e => ?_⟩
      rcases hv with hv | hv
      · have := hlt b (hv ▸ e); omega
      · rw [hv] at e; injection e with e; omega
  · refine (Flat.alike (w' := w2) (fun b hbf => ?_) hf).mono fun b hbf => ?_
    · obtain ⟨hb1, hb2, hb3⟩ := hbf
      rw [hg.block b (by omega) (fun e => hb3 e.symm), h2.block b (by omega), h1.block b hb2]
    · obtain ⟨hb1, hb2, hb3⟩ := hbf
      refine ⟨hb1, by omega, fun e => ?_⟩
      rcases hv with hv | hv
      · exact hb3 (hv ▸ e)
      · rw [hv] at e; injection e with e; omega

theorem ext_grown {w W2 w2 : World} {e : TypeId} {size n : Nat} {u : Value} {xs : List Value} (h : Ext w W2) (hown : W2.ownsRow w.heap.size e size u n xs) (hg : GrownBy W2 w2 u.ownBlock) : Ext w w2 :=
  ⟨Below.grown h.toBelow hg.togrownBy h.size fun k hk => (hown.lt k hk).1, Nat.le_trans h.drawn hg.drawn⟩

theorem Val.At.one {S : Nat → Prop} {w : World} {v : Val} {cs : List Value} (h : Val.At S w v cs) : ∀ u ∈ cs, u.oneCell' = true := by
  obtain ⟨k, b, n, t, ut, ui, A, l, c, A2, l2, c2, rfl⟩ := h.shape
  intro u hu
  simp at hu
  rcases hu with rfl | rfl | rfl | rfl | rfl | rfl | rfl | rfl <;> rfl
end Go.Proofs.Ytpkgkabcikmopaa
