/-
  A part of one row behind another row of the call's own. No function of the program. The conditions: none (definitions and lemmas).
-/
import Derived.Test.YtjllolagcdjlnaaGreatGd
import Derived.Test.YtjllolagcdjlnaaGreatChainM
namespace Go.Proofs.YtjllolagcdjlnaaGreat
open Go.RowKit

section
variable {α : Type} {R : Rep α} {T : TypeId} {base : Nat} {W W' : World} {v v' : Value} {l : List α}
theorem OwnL.push_all {ys : List α} {xs cs : List Value} (hf : R.Flat (fun b => b < W.heap.size ∧ v.ownBlock ≠ some b) W l xs) (hx : R.Flat (fun b => b < W.heap.size ∧ v.ownBlock ≠ some b) W ys cs) (hg : GrownBy W W' v.ownBlock)
    (ho : W'.ownsRow base T R.size v' (l.length + ys.length) (xs ++ cs)) (hv : v'.ownBlock = v.ownBlock ∨ v'.ownBlock = some W.heap.size) : OwnL R T base W' v' (l ++ ys) := by
  have hal : Alike (fun b => b < W.heap.size ∧ v.ownBlock ≠ some b) W W' := fun b hb => hg.block b hb.1 fun e => hb.2 e.symm
  refine ⟨xs ++ cs, by simpa using ho, ?_⟩
  refine Rep.Flat.mono (S := fun b => b < W.heap.size ∧ v.ownBlock ≠ some b) (fun b hb => ⟨Nat.lt_of_lt_of_le hb.1 hg.size, fun e => ?_⟩) (Rep.Flat.append (Rep.Flat.alike hal hf) (Rep.Flat.alike hal hx))
  rcases hv with hv | hv
  · exact hb.2 (hv ▸ e)
  · rw [hv] at e; injection e with e; have := hb.1; omega
/-- what a row holds, as a source -/
theorem OwnL.src {A : Option Addr} {n cap : Nat} (h : OwnL R T base W (.slice A n cap) l) : ∃ xs, R.Flat (fun b => b < W.heap.size) W l xs ∧ n = l.length ∧ n ≤ cap ∧ cap ≤ maxLen ∧ SrcAt W A n xs ∧ ∀ b o, A = some ⟨b, o, none⟩ → b < W.heap.size := by
  obtain ⟨xs, h1, h2⟩ := h
  have hn : n = l.length := by
    obtain ⟨A', c', e⟩ := own_shape h1
    injection e
  subst hn
  refine ⟨xs, h2.mono fun b hb => hb.1, rfl, ?_⟩
  rcases Nat.eq_zero_or_pos l.length with h0 | h0
  · obtain ⟨hx, hv⟩ := h1
    rcases hv with ⟨hv, _⟩ | ⟨g, cap', cur, hv, hg, hh, hnc, hcm, _⟩
    · injection hv with e1 e2 e3
      subst e1 e3
      exact ⟨by omega, by simp, fun h => by omega, fun b o e => by cases e⟩
    · injection hv with e1 e2 e3
      subst e1 e3
      exact ⟨by omega, hcm, fun h => by omega, fun b o e => by injection e with e; injection e with e; subst e; exact Blk_lt hh⟩
  · obtain ⟨g, cap', hv, hg, hnc, hcm, hc⟩ := own_cells h1 h0
    have hlt := (h1.lt g (by rw [hv]; rfl)).2
    injection hv with e1 e2 e3
    subst e1 e3
    exact ⟨hnc, hcm, fun _ => ⟨g, 0, rfl, hc⟩, fun b o e => by injection e with e; injection e with e; subst e; exact hlt⟩
theorem SrcAt.ext {A : Option Addr} {n : Nat} {xs : List Value} (h : SrcAt W A n xs) (hA : ∀ b o, A = some ⟨b, o, none⟩ → b < W.heap.size) (k : Ext W W') : SrcAt W' A n xs := fun h0 => by
  obtain ⟨b, o, e, hc⟩ := h h0
  exact ⟨b, o, e, hc.alike (S := fun b => b < W.heap.size) (hA b o e) (Alike.of_ext k fun _ h => h)⟩
theorem SrcAt.to {A : Option Addr} {n p sz : Nat} {xs : List Value} (h : SrcAt W A n xs) (hp : p ≤ n) : SrcAt W A p (xs.take (p * sz)) := fun h0 => by
  obtain ⟨b, o, e, hc⟩ := h (by omega)
  exact ⟨b, o, e, fun j v hj => hc j v (by rw [List.getElem?_take] at hj; split at hj; exact hj; cases hj)⟩
theorem SrcAt.off {A A2 : Option Addr} {n p sz cap : Nat} {xs : List Value} (h : SrcAt W A n xs) (hcap : n ≤ cap) (hA : CutOf A A2 n cap p sz) : SrcAt W A2 (n - p) (xs.drop (p * sz)) := fun h0 => by
  obtain ⟨b, o, e, hc⟩ := h (by omega)
  exact ⟨b, o + p * sz, hA b o hcap (by omega) e, hc.part fun j v hj => by rw [List.getElem?_drop] at hj; exact hj⟩
end
/-- a part of a row behind a row of the call's own -/
theorem wpList_push_all {α : Type} {P : Program} {ops : Array Oper} {rest : List Oper} {o : Oper} {a : Act} {Q : Exit → Act → World → Prop} {w : World} (hgd : o.guard = none) (s x : Operand) (t : TypeId)
    (ho : o.op = .call { callee := .builtin .append, args := #[s, x], argTypes := #[t, t] }) (R : Rep α) (base : Nat) (e : TypeId) (i : TypeInfo) (z : Value) (bytes : Nat) (ht : P.underlying t = some (.slice e)) (hi : P.info? e = some i) (hz : i.zero = some z)
    (hsize : i.size = R.size) (hby : i.bytes = bytes) (hzs : z.cells.size = R.size) (v : Value) (l ys : List α) (A : Option Addr) (m c : Nat) (cs : List Value) (hs : a.eval s = v) (hx : a.eval x = .slice A m c)
    (hown : OwnL R e base w v l) (hsrc : SrcAt w A m cs) (hm : ys.length = m) (hy : R.Flat (fun b => b < w.heap.size ∧ v.ownBlock ≠ some b) w ys cs) (h63 : l.length + m ≤ maxLen) (hbytes : (l.length + m) * bytes ≤ 140737488355328) (hbase : base ≤ w.heap.size)
    (h : ∀ v' w', OwnL R e base w' v' (l ++ ys) → GrownBy w w' v.ownBlock → wpList P ops Q rest (a.put o.dst v') w') : wpList P ops Q (o :: rest) a w := by
  obtain ⟨xs, h1, h2⟩ := hown
  refine wpList_append_any hgd s x t ho base e i z R.size bytes ht hi hz hsize hby hzs R.pos v l.length xs hs h1 A m c cs hx (by rw [hy.length, hm]) hsrc hy.one h63 hbytes hbase fun v' w' ho' hg' hb' => ?_
  exact h v' w' (OwnL.push_all h2 hy hg' (by rw [hm]; exact ho') hb') hg'
end Go.Proofs.YtjllolagcdjlnaaGreat
