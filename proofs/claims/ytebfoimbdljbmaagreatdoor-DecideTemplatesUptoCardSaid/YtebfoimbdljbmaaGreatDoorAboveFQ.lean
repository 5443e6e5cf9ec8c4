/-
  All that are above a name, by the program's store. The conditions: the store lies in memory as it should.
-/
import Derived.Test.YtebfoimbdljbmaaGreatDoorGj
import Derived.Test.YtebfoimbdljbmaaGreatDoorKeysPQ
import Derived.RangeFuncBox
namespace Go.Proofs.YtebfoimbdljbmaaGreatDoor
open Go.RowKit Go.Shelf Go.Maps
attribute [local go_sem] Oper.semAt_some
section
variable {F : Fence} {n : Nat} {P : Program} {ops : Array Oper} {rest : List Oper} {o : Oper} {a : Act} {w : World} {Q : Exit → Act → World → Prop}
theorem wpListIn_append_at (hgd : o.guard = none) (s x : Operand) (t : TypeId) (ho : o.op = .call { callee := .builtin .append, args := #[s, x], argTypes := #[t, t] })
  (base : Nat) (e : TypeId) (i : TypeInfo) (z : Value) (size bytes : Nat) (ht : P.underlying t = some (.slice e)) (hi : P.info? e = some i) (hz : i.zero = some z)
  (hsize : i.size = size) (hby : i.bytes = bytes) (hzs : z.cells.size = size) (hsz : 0 < size)
  (v : Value) (k : Nat) (xs : List Value) (hs : a.eval s = v) (hown : w.ownsRow base e size v k xs)
  (b of m c : Nat) (news : List Value) (hx : a.eval x = .slice (some ⟨b, of, none⟩) m c) (hl : news.length = m * size) (hnews : CellsAt w b of news) (h1 : ∀ u ∈ news, u.oneCell' = true)
  (h63 : k + m ≤ maxLen) (hbytes : (k + m) * bytes ≤ 140737488355328) (hbase : base ≤ w.heap.size)
  (h : ∀ v' w', w'.ownsRow base e size v' (k + m) (xs ++ news) → GrownBy w w' v.ownBlock → wpListIn F n P ops Q rest (a.put o.dst v') w') : wpListIn F n P ops Q (o :: rest) a w := by
 obtain ⟨v', w', hrun, h2, h3, _⟩ := exec_append_at (P := P) (o := o) (a := a) s x t ho base e i z size bytes ht hi hz hsize hby hzs hsz v k xs hs hown b of m c news hx hl hnews h1 h63 hbytes hbase
 exact wpListIn_value hgd (by rw [ho]; intro c hc; cases hc) (by simp [Oper.about, ho, resolve, Target.leads, Sem.run_pure]) hrun (h v' w' h2 h3)
end
def cellsQ (q : Uid) : List Value := [.string q.1, .string q.2]
def upF (u : Uid) (pre : List FPair) : List Uid := (pre.filter fun p => decide (p.1.1 = u)).map fun p => p.1.2
structure UpRow (u : Uid) (w : World) (pre : List FPair) (W : World) : Prop where
 box : W.heap[w.heap.size]? = some (.cells #[.string u.1, .string u.2] 23 (0, 0))
 row : ∃ v, Boxed W (w.heap.size + 1) 50 v ∧ W.ownsRow (w.heap.size + 1) 23 2 v (upF u pre).length ((upF u pre).flatMap cellsQ)
 ext : Ext w W
theorem own_kept {W W' : World} {base : Nat} {T : TypeId} {sz n : Nat} {v : Value} {xs : List Value} {row : Option Nat} (h : W.ownsRow base T sz v n xs) (hg : GrownBy W W' row) (hr : ∀ r, row = some r → ∃ o : Obj, W.heap[r]? = some o ∧ o.isCells = false) : W'.ownsRow base T sz v n xs :=
 zaj h hg fun b hb e => by
  obtain ⟨_, cur, T', hc⟩ := own_free h hb
  obtain ⟨o, ho, hcells⟩ := hr b e
  rw [hc] at ho
  cases ho
  cases hcells
theorem UpRow.own {u : Uid} {w : World} {B : Nat} (hB : w.heap.size ≤ B) : OwnG B (UpRow u w) := fun pre W W' row h hg hr => by
 have hne : ∀ {b : Nat} {cs : Array Value} {T : TypeId}, W.heap[b]? = some (.cells cs T (0, 0)) → some b ≠ row := fun hb e => by
  obtain ⟨_, o, ho, hc⟩ := hr _ e.symm
  rw [hb] at ho
  cases ho
  cases hc
 obtain ⟨v, hv, hrow⟩ := h.row
 exact ⟨(hg.block _ (zaf h.box) (hne h.box)).trans h.box, ⟨v, (hg.block _ (zaf hv) (hne hv)).trans hv, own_kept hrow hg fun r e => (hr r e).2⟩, zak h.ext hg fun b e => Nat.le_trans hB (hr b e).1⟩
theorem UpRow.new {u : Uid} {w : World} {pre : List FPair} {W : World} (h : UpRow u w pre W) (o : Obj) : UpRow u w pre (W.alloc o) := UpRow.own (Nat.le_refl _) pre W _ none h (GrownBy.alloc W o) fun r e => by cases e
end Go.Proofs.YtebfoimbdljbmaaGreatDoor
