/-
  Words for memory: types of a schema. The conditions: none (definitions and lemmas).
-/
import Derived.Test.YtjllolagcdjlnaaGreatGa
namespace Go.Proofs.YtjllolagcdjlnaaGreat
open Go.RowKit

mutual
/-- a type's plain data -/
inductive Ty where
  | mk (kind : Int) (name : ByteArray) (elem : List Ty) (attrs : List Atr)
/-- an attribute's plain data -/
inductive Atr where
  | mk (name : ByteArray) (ty : Ty) (opt : Bool)
end
namespace Ty
def kind : Ty → Int | mk k _ _ _ => k
def name : Ty → ByteArray | mk _ n _ _ => n
def elem : Ty → List Ty | mk _ _ e _ => e
def attrs : Ty → List Atr | mk _ _ _ a => a
end Ty
namespace Atr
def name : Atr → ByteArray | mk n _ _ => n
def ty : Atr → Ty | mk _ t _ => t
def opt : Atr → Bool | mk _ _ o => o
end Atr

mutual
def Ty.At (S : Nat → Prop) (w : World) : Ty → List Value → Prop
  | .mk k name elem attrs, cs => ∃ A cap B capb, cs = [.int .i64 k, .string name, .slice A elem.length cap, .slice B attrs.length capb] ∧ (I64 k ∧ name.size ≤ maxLen) ∧
      (elem.length ≤ LIM ∧ elem.length ≤ cap ∧ cap ≤ maxLen) ∧ (attrs.length ≤ LIM ∧ attrs.length ≤ capb ∧ capb ≤ maxLen) ∧
      (0 < elem.length → ∃ b o, A = some ⟨b, o, none⟩ ∧ S b ∧ Ty.RowAt S w elem b o) ∧ (0 < attrs.length → ∃ b o, B = some ⟨b, o, none⟩ ∧ S b ∧ Atr.RowAt S w attrs b o)
def Ty.RowAt (S : Nat → Prop) (w : World) : List Ty → Nat → Nat → Prop
  | [], _, _ => True
  | v :: r, b, o => (∃ cs, cs.length = 4 ∧ CellsAt w b o cs ∧ Ty.At S w v cs) ∧ Ty.RowAt S w r b (o + 4)
def Atr.At (S : Nat → Prop) (w : World) : Atr → List Value → Prop
  | .mk n t opt, cs => ∃ tc, cs = .string n :: (tc ++ [.bool opt]) ∧ n.size ≤ maxLen ∧ Ty.At S w t tc
def Atr.RowAt (S : Nat → Prop) (w : World) : List Atr → Nat → Nat → Prop
  | [], _, _ => True
  | v :: r, b, o => (∃ cs, cs.length = 6 ∧ CellsAt w b o cs ∧ Atr.At S w v cs) ∧ Atr.RowAt S w r b (o + 6)
end
theorem Ty.At.length {S : Nat → Prop} {w : World} {t : Ty} {cs : List Value} (h : Ty.At S w t cs) : cs.length = 4 := by
  cases t; unfold Ty.At at h; obtain ⟨_, _, _, _, rfl, _⟩ := h; rfl

mutual
theorem Ty.At.alike {S : Nat → Prop} {w w' : World} (k : Alike S w w') : ∀ (t : Ty) (cs : List Value), Ty.At S w t cs → Ty.At S w' t cs
  | .mk _ _ elem attrs, cs, h => by
    unfold Ty.At at h ⊢
    obtain ⟨A, cap, B, capb, e, h1, h2, h3, h4, h5⟩ := h
    exact ⟨A, cap, B, capb, e, h1, h2, h3, fun hn => let ⟨b, o, e, hs, hc⟩ := h4 hn; ⟨b, o, e, hs, Ty.RowAt.alike k hs elem o hc⟩, fun hn => let ⟨b, o, e, hs, hc⟩ := h5 hn; ⟨b, o, e, hs, Atr.RowAt.alike k hs attrs o hc⟩⟩
theorem Ty.RowAt.alike {S : Nat → Prop} {w w' : World} (k : Alike S w w') {b : Nat} (hs : S b) : ∀ (l : List Ty) (o : Nat), Ty.RowAt S w l b o → Ty.RowAt S w' l b o
  | [], _, _ => by unfold Ty.RowAt; trivial
  | v :: r, o, h => by
    unfold Ty.RowAt at h ⊢
    obtain ⟨⟨cs, hl, hc, hv⟩, hr⟩ := h
    exact ⟨⟨cs, hl, hc.alike hs k, Ty.At.alike k v cs hv⟩, Ty.RowAt.alike k hs r (o + 4) hr⟩
theorem Atr.At.alike {S : Nat → Prop} {w w' : World} (k : Alike S w w') : ∀ (a : Atr) (cs : List Value), Atr.At S w a cs → Atr.At S w' a cs
  | .mk _ t _, cs, h => by
    unfold Atr.At at h ⊢
    obtain ⟨tc, e, h1, h2⟩ := h
    exact ⟨tc, e, h1, Ty.At.alike k t tc h2⟩
theorem Atr.RowAt.alike {S : Nat → Prop} {w w' : World} (k : Alike S w w') {b : Nat} (hs : S b) : ∀ (l : List Atr) (o : Nat), Atr.RowAt S w l b o → Atr.RowAt S w' l b o
  | [], _, _ => by unfold Atr.RowAt; trivial
  | v :: r, o, h => by
    unfold Atr.RowAt at h ⊢
    obtain ⟨⟨cs, hl, hc, hv⟩, hr⟩ := h
    exact ⟨⟨cs, hl, hc.alike hs k, Atr.At.alike k v cs hv⟩, Atr.RowAt.alike k hs r (o + 6) hr⟩
end
mutual
theorem Ty.At.mono {S S' : Nat → Prop} {w : World} (k : ∀ b, S b → S' b) : ∀ (t : Ty) (cs : List Value), Ty.At S w t cs → Ty.At S' w t cs
  | .mk _ _ elem attrs, cs, h => by
    unfold Ty.At at h ⊢
    obtain ⟨A, cap, B, capb, e, h1, h2, h3, h4, h5⟩ := h
    exact ⟨A, cap, B, capb, e, h1, h2, h3, fun hn => let ⟨b, o, e, hs, hc⟩ := h4 hn; ⟨b, o, e, k b hs, Ty.RowAt.mono k elem b o hc⟩, fun hn => let ⟨b, o, e, hs, hc⟩ := h5 hn; ⟨b, o, e, k b hs, Atr.RowAt.mono k attrs b o hc⟩⟩
theorem Ty.RowAt.mono {S S' : Nat → Prop} {w : World} (k : ∀ b, S b → S' b) : ∀ (l : List Ty) (b o : Nat), Ty.RowAt S w l b o → Ty.RowAt S' w l b o
  | [], _, _, _ => by unfold Ty.RowAt; trivial
  | v :: r, b, o, h => by
    unfold Ty.RowAt at h ⊢
    obtain ⟨⟨cs, hl, hc, hv⟩, hr⟩ := h
    exact ⟨⟨cs, hl, hc, Ty.At.mono k v cs hv⟩, Ty.RowAt.mono k r b (o + 4) hr⟩
theorem Atr.At.mono {S S' : Nat → Prop} {w : World} (k : ∀ b, S b → S' b) : ∀ (a : Atr) (cs : List Value), Atr.At S w a cs → Atr.At S' w a cs
  | .mk _ t _, cs, h => by
    unfold Atr.At at h ⊢
    obtain ⟨tc, e, h1, h2⟩ := h
    exact ⟨tc, e, h1, Ty.At.mono k t tc h2⟩
theorem Atr.RowAt.mono {S S' : Nat → Prop} {w : World} (k : ∀ b, S b → S' b) : ∀ (l : List Atr) (b o : Nat), Atr.RowAt S w l b o → Atr.RowAt S' w l b o
  | [], _, _, _ => by unfold Atr.RowAt; trivial
  | v :: r, b, o, h => by
    unfold Atr.RowAt at h ⊢
    obtain ⟨⟨cs, hl, hc, hv⟩, hr⟩ := h
    exact ⟨⟨cs, hl, hc, Atr.At.mono k v cs hv⟩, Atr.RowAt.mono k r b (o + 6) hr⟩
end
theorem Ty.RowAt.get {S : Nat → Prop} {w : World} : ∀ {l : List Ty} {b o : Nat}, Ty.RowAt S w l b o → ∀ {i : Nat} {x : Ty}, l[i]? = some x →
    ∃ cs, cs.length = 4 ∧ CellsAt w b (o + i * 4) cs ∧ Ty.At S w x cs
  | [], _, _, _, _, _, h => by simp at h
  | v :: r, b, o, h, 0, x, hx => by
    unfold Ty.RowAt at h; simp at hx; subst hx; simpa using h.1
  | v :: r, b, o, h, i + 1, x, hx => by
    unfold Ty.RowAt at h
    obtain ⟨cs, h1, h2, h3⟩ := Ty.RowAt.get h.2 (i := i) (x := x) (by simpa using hx)
    exact ⟨cs, h1, by rw [show o + (i + 1) * 4 = o + 4 + i * 4 from by omega]; exact h2, h3⟩
theorem Atr.RowAt.get {S : Nat → Prop} {w : World} : ∀ {l : List Atr} {b o : Nat}, Atr.RowAt S w l b o → ∀ {i : Nat} {x : Atr}, l[i]? = some x →
    ∃ cs, cs.length = 6 ∧ CellsAt w b (o + i * 6) cs ∧ Atr.At S w x cs
  | [], _, _, _, _, _, h => by simp at h
  | v :: r, b, o, h, 0, x, hx => by
    unfold Atr.RowAt at h; simp at hx; subst hx; simpa using h.1
  | v :: r, b, o, h, i + 1, x, hx => by
    unfold Atr.RowAt at h
    obtain ⟨cs, h1, h2, h3⟩ := Atr.RowAt.get h.2 (i := i) (x := x) (by simpa using hx)
    exact ⟨cs, h1, by rw [show o + (i + 1) * 6 = o + 6 + i * 6 from by omega]; exact h2, h3⟩

mutual
/-- how deep -/
def Ty.dep : Ty → Nat
  | .mk _ _ elem attrs => max (Ty.deps elem) (Atr.deps attrs) + 1
def Ty.deps : List Ty → Nat
  | [] => 0
  | t :: r => max t.dep (Ty.deps r)
def Atr.dep : Atr → Nat
  | .mk _ t _ => t.dep
def Atr.deps : List Atr → Nat
  | [] => 0
  | a :: r => max a.dep (Atr.deps r)
end
mutual
/-- may it be, whatever its depth (the names' order is the texts') -/
def Ty.may (le : ByteArray → ByteArray → Bool) : Ty → Bool
  | .mk k _ elem attrs => decide (0 ≤ k) && decide (k ≤ 8) && (decide (k ≠ 7) || elem.length == 1) && Ty.mays le elem && Atr.mays le attrs
def Ty.mays (le : ByteArray → ByteArray → Bool) : List Ty → Bool
  | [] => true
  | t :: r => t.may le && Ty.mays le r
def Atr.may1 (le : ByteArray → ByteArray → Bool) : Atr → Bool
  | .mk _ t _ => t.may le
def Atr.mays (le : ByteArray → ByteArray → Bool) : List Atr → Bool
  | [] => true
  | a :: r => a.may1 le && Atr.mays le r
end
end Go.Proofs.YtjllolagcdjlnaaGreat
