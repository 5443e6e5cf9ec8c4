/-
  Words for memory: expressions. The conditions: none (definitions and lemmas).
-/
import Derived.Test.YtebfoimbdljbmaaGreatDoorGc
import Derived.Test.YtebfoimbdljbmaaGreatDoorGb
namespace Go.Proofs.YtebfoimbdljbmaaGreatDoor
open Go.RowKit
inductive Exp where
 | mk (op : Int) (v : Val) (name : ByteArray) (kids : List Exp) (names : List ByteArray)
namespace Exp
def op : Exp → Int | mk o _ _ _ _ => o
def v : Exp → Val | mk _ v _ _ _ => v
def name : Exp → ByteArray | mk _ _ n _ _ => n
def kids : Exp → List Exp | mk _ _ _ k _ => k
def names : Exp → List ByteArray | mk _ _ _ _ l => l
end Exp
mutual
def Exp.At (S : Nat → Prop) (w : World) : Exp → List Value → Prop
 | .mk op v name kids names, cs => ∃ vc K cap nv, cs = .int .i64 op :: (vc ++ [.string name, .slice K kids.length cap, nv]) ∧ (I64 op ∧ name.size ≤ maxLen) ∧ Val.At S w v vc ∧
   (kids.length ≤ LIM ∧ kids.length ≤ cap ∧ cap ≤ maxLen) ∧ (0 < kids.length → ∃ b o, K = some ⟨b, o, none⟩ ∧ S b ∧ Exp.RowAt S w kids b o) ∧ StrsAt S w names nv
def Exp.RowAt (S : Nat → Prop) (w : World) : List Exp → Nat → Nat → Prop
 | [], _, _ => True
 | v :: r, b, o => (∃ cs, cs.length = 12 ∧ CellsAt w b o cs ∧ Exp.At S w v cs) ∧ Exp.RowAt S w r b (o + 12)
end
theorem Exp.At.length {S : Nat → Prop} {w : World} {t : Exp} {cs : List Value} (h : Exp.At S w t cs) : cs.length = 12 := by
 cases t; unfold Exp.At at h; obtain ⟨vc, _, _, _, rfl, _, hv, _⟩ := h
 have := hv.length
 simp; omega
mutual
theorem Exp.At.alike {S : Nat → Prop} {w w' : World} (k : Alike S w w') : ∀ (t : Exp) (cs : List Value), Exp.At S w t cs → Exp.At S w' t cs
 | .mk _ _ _ kids _, cs, h => by
  unfold Exp.At at h ⊢
  obtain ⟨vc, K, cap, nv, e, h1, h2, h3, h4, h5⟩ := h
  exact ⟨vc, K, cap, nv, e, h1, h2.alike k, h3, fun hn => let ⟨b, o, e, hs, hc⟩ := h4 hn; ⟨b, o, e, hs, Exp.RowAt.alike k hs kids o hc⟩, h5.alike k⟩
theorem Exp.RowAt.alike {S : Nat → Prop} {w w' : World} (k : Alike S w w') {b : Nat} (hs : S b) : ∀ (l : List Exp) (o : Nat), Exp.RowAt S w l b o → Exp.RowAt S w' l b o
 | [], _, _ => by unfold Exp.RowAt; trivial
 | v :: r, o, h => by
  unfold Exp.RowAt at h ⊢
  obtain ⟨⟨cs, hl, hc, hv⟩, hr⟩ := h
  exact ⟨⟨cs, hl, hc.alike hs k, Exp.At.alike k v cs hv⟩, Exp.RowAt.alike k hs r (o + 12) hr⟩
end
mutual
theorem Exp.At.mono {S S' : Nat → Prop} {w : World} (k : ∀ b, S b → S' b) : ∀ (t : Exp) (cs : List Value), Exp.At S w t cs → Exp.At S' w t cs
 | .mk _ _ _ kids _, cs, h => by
  unfold Exp.At at h ⊢
  obtain ⟨vc, K, cap, nv, e, h1, h2, h3, h4, h5⟩ := h
  exact ⟨vc, K, cap, nv, e, h1, h2.mono k, h3, fun hn => let ⟨b, o, e, hs, hc⟩ := h4 hn; ⟨b, o, e, k b hs, Exp.RowAt.mono k kids b o hc⟩, h5.mono k⟩
theorem Exp.RowAt.mono {S S' : Nat → Prop} {w : World} (k : ∀ b, S b → S' b) : ∀ (l : List Exp) (b o : Nat), Exp.RowAt S w l b o → Exp.RowAt S' w l b o
 | [], _, _, _ => by unfold Exp.RowAt; trivial
 | v :: r, b, o, h => by
  unfold Exp.RowAt at h ⊢
  obtain ⟨⟨cs, hl, hc, hv⟩, hr⟩ := h
  exact ⟨⟨cs, hl, hc, Exp.At.mono k v cs hv⟩, Exp.RowAt.mono k r b (o + 12) hr⟩
end
theorem Exp.RowAt.get {S : Nat → Prop} {w : World} : ∀ {l : List Exp} {b o : Nat}, Exp.RowAt S w l b o → ∀ {i : Nat} {x : Exp}, l[i]? = some x →
  ∃ cs, cs.length = 12 ∧ CellsAt w b (o + i * 12) cs ∧ Exp.At S w x cs
 | [], _, _, _, _, _, h => by simp at h
 | v :: r, b, o, h, 0, x, hx => by
  unfold Exp.RowAt at h; simp at hx; subst hx; simpa using h.1
 | v :: r, b, o, h, i + 1, x, hx => by
  unfold Exp.RowAt at h
  obtain ⟨cs, h1, h2, h3⟩ := Exp.RowAt.get h.2 (i := i) (x := x) (by simpa using hx)
  exact ⟨cs, h1, by rw [show o + (i + 1) * 12 = o + 12 + i * 12 from by omega]; exact h2, h3⟩
theorem Exp.At.one {S : Nat → Prop} {w : World} {t : Exp} {cs : List Value} (h : Exp.At S w t cs) : ∀ u ∈ cs, u.oneCell' = true := by
 cases t; unfold Exp.At at h; obtain ⟨vc, K, cap, nv, rfl, _, hv, _, _, A, c, rfl, _⟩ := h
 intro u hu
 simp only [List.mem_cons, List.mem_append, List.mem_nil_iff, or_false] at hu
 rcases hu with rfl | hu | rfl | rfl | rfl
 ·rfl
 ·exact hv.one u hu
 ·rfl
 ·rfl
 ·rfl
def expR : Rep Exp where
 size := 12
 pos := by omega
 At S w x cs := Exp.At S w x cs
 len h := h.length
 one h := h.one
 alike h k := Exp.At.alike k _ _ h
 mono h k := Exp.At.mono k _ _ h
theorem Exp.RowAt.mk {S : Nat → Prop} {w : World} : ∀ {l : List Exp} {b o : Nat}, expR.RowAt S w l b o → Exp.RowAt S w l b o
 | [], _, _, _ => by unfold Exp.RowAt; trivial
 | v :: r, b, o, h => by
  unfold Exp.RowAt
  obtain ⟨cs, h1, h2⟩ := h 0 v rfl
  refine ⟨⟨cs, Exp.At.length h2, by simpa using h1, h2⟩, Exp.RowAt.mk fun i x hx => ?_⟩
  obtain ⟨cs, h1, h2⟩ := h (i + 1) x (by simpa using hx)
  exact ⟨cs, by rw [show o + 12 + i * expR.size = o + (i + 1) * expR.size from by simp [expR]; omega]; exact h1, h2⟩
theorem Exp.RowAt.row {S : Nat → Prop} {w : World} {l : List Exp} {b o : Nat} (h : Exp.RowAt S w l b o) : expR.RowAt S w l b o := fun i x hx => by
 obtain ⟨cs, _, h2, h3⟩ := h.get hx
 exact ⟨cs, h2, h3⟩
theorem Exp.At.parts {S : Nat → Prop} {w : World} {t : Exp} {cs : List Value} (h : Exp.At S w t cs) : ∃ vc K cap nv, cs = .int .i64 t.op :: (vc ++ [.string t.name, .slice K t.kids.length cap, nv]) ∧ (I64 t.op ∧ t.name.size ≤ maxLen) ∧ Val.At S w t.v vc ∧
  expR.RowsAt S w t.kids (.slice K t.kids.length cap) ∧ StrsAt S w t.names nv := by
 obtain ⟨o, v, n, k, l⟩ := t
 unfold Exp.At at h
 obtain ⟨vc, K, cap, nv, rfl, h1, h2, h3, h4, h5⟩ := h
 exact ⟨vc, K, cap, nv, rfl, h1, h2, ⟨K, cap, rfl, h3, fun hn => let ⟨b, o, e, hs, hr⟩ := h4 hn; ⟨b, o, e, hs, hr.row⟩⟩, h5⟩
theorem Exp.At.shape {S : Nat → Prop} {w : World} {t : Exp} {cs : List Value} (h : Exp.At S w t cs) : ∃ k b n s ut ui A l c A2 l2 c2 K cap N capn, cs = [.int .i64 t.op, .int .i64 k, .bool b, .int .i64 n, .string s, .string ut, .string ui, .slice A l c, .slice A2 l2 c2, .string t.name, .slice K t.kids.length cap, .slice N t.names.length capn] ∧
  (I64 t.op ∧ t.name.size ≤ maxLen) ∧ Val.At S w t.v [.int .i64 k, .bool b, .int .i64 n, .string s, .string ut, .string ui, .slice A l c, .slice A2 l2 c2] ∧ expR.RowsAt S w t.kids (.slice K t.kids.length cap) ∧ StrsAt S w t.names (.slice N t.names.length capn) := by
 obtain ⟨vc, K, cap, nv, rfl, h1, h2, h3, h4⟩ := h.parts
 obtain ⟨k, b, n, s, ut, ui, A, l, c, A2, l2, c2, rfl⟩ := h2.shape
 obtain ⟨N, capn, rfl, h5⟩ := id h4
 exact ⟨k, b, n, s, ut, ui, A, l, c, A2, l2, c2, K, cap, N, capn, rfl, h1, h2, h3, h4⟩
mutual
def Exp.dep : Exp → Nat
 | .mk _ _ _ kids _ => Exp.deps kids + 1
def Exp.deps : List Exp → Nat
 | [] => 0
 | e :: r => max e.dep (Exp.deps r)
end
end Go.Proofs.YtebfoimbdljbmaaGreatDoor
