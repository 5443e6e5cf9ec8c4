/-
  Types and schemas in memory, as kinds of things that lie in cells. The conditions: none (definitions and lemmas).
-/
import Derived.Test.YtjllolagcdjlnaaGreatTyM
import Derived.Test.YtjllolagcdjlnaaGreatGc
namespace Go.Proofs.YtjllolagcdjlnaaGreat
open Go.RowKit

theorem Ty.At.one {S : Nat → Prop} {w : World} {t : Ty} {cs : List Value} (h : Ty.At S w t cs) : ∀ u ∈ cs, u.oneCell' = true := by
  cases t; unfold Ty.At at h; obtain ⟨_, _, _, _, rfl, _⟩ := h
  intro u hu
  simp at hu
  rcases hu with rfl | rfl | rfl | rfl <;> rfl
/-- types -/
def tyR : Rep Ty where
  size := 4
  pos := by omega
  At S w x cs := Ty.At S w x cs
  len h := h.length
  one h := h.one
  alike h k := Ty.At.alike k _ _ h
  mono h k := Ty.At.mono k _ _ h
theorem Atr.At.length {S : Nat → Prop} {w : World} {t : Atr} {cs : List Value} (h : Atr.At S w t cs) : cs.length = 6 := by
  cases t; unfold Atr.At at h; obtain ⟨tc, rfl, _, h⟩ := h
  have := h.length
  simp; omega
theorem Atr.At.one {S : Nat → Prop} {w : World} {t : Atr} {cs : List Value} (h : Atr.At S w t cs) : ∀ u ∈ cs, u.oneCell' = true := by
  cases t; unfold Atr.At at h; obtain ⟨tc, rfl, _, h⟩ := h
  intro u hu
  simp only [List.mem_cons, List.mem_append, List.mem_nil_iff, or_false] at hu
  rcases hu with rfl | hu | rfl
  · rfl
  · exact h.one u hu
  · rfl
/-- attributes -/
def atrR : Rep Atr where
  size := 6
  pos := by omega
  At S w x cs := Atr.At S w x cs
  len h := h.length
  one h := h.one
  alike h k := Atr.At.alike k _ _ h
  mono h k := Atr.At.mono k _ _ h

theorem Ty.RowAt.mk {S : Nat → Prop} {w : World} : ∀ {l : List Ty} {b o : Nat}, tyR.RowAt S w l b o → Ty.RowAt S w l b o
  | [], _, _, _ => by unfold Ty.RowAt; trivial
  | v :: r, b, o, h => by
    unfold Ty.RowAt
    obtain ⟨cs, h1, h2⟩ := h 0 v rfl
    refine ⟨⟨cs, Ty.At.length h2, by simpa using h1, h2⟩, Ty.RowAt.mk fun i x hx => ?_⟩
    obtain ⟨cs, h1, h2⟩ := h (i + 1) x (by simpa using hx)
    exact ⟨cs, by rw [show o + 4 + i * tyR.size = o + (i + 1) * tyR.size from by simp [tyR]; omega]; exact h1, h2⟩
theorem Atr.RowAt.mk {S : Nat → Prop} {w : World} : ∀ {l : List Atr} {b o : Nat}, atrR.RowAt S w l b o → Atr.RowAt S w l b o
  | [], _, _, _ => by unfold Atr.RowAt; trivial
  | v :: r, b, o, h => by
    unfold Atr.RowAt
    obtain ⟨cs, h1, h2⟩ := h 0 v rfl
    refine ⟨⟨cs, Atr.At.length h2, by simpa using h1, h2⟩, Atr.RowAt.mk fun i x hx => ?_⟩
    obtain ⟨cs, h1, h2⟩ := h (i + 1) x (by simpa using hx)
    exact ⟨cs, by rw [show o + 6 + i * atrR.size = o + (i + 1) * atrR.size from by simp [atrR]; omega]; exact h1, h2⟩
theorem Ty.RowAt.row {S : Nat → Prop} {w : World} {l : List Ty} {b o : Nat} (h : Ty.RowAt S w l b o) : tyR.RowAt S w l b o := fun i x hx => by
  obtain ⟨cs, _, h2, h3⟩ := h.get hx
  exact ⟨cs, h2, h3⟩
theorem Atr.RowAt.row {S : Nat → Prop} {w : World} {l : List Atr} {b o : Nat} (h : Atr.RowAt S w l b o) : atrR.RowAt S w l b o := fun i x hx => by
  obtain ⟨cs, _, h2, h3⟩ := h.get hx
  exact ⟨cs, h2, h3⟩

/-- a type's cells: what its two rows are -/
theorem Ty.At.parts {S : Nat → Prop} {w : World} {t : Ty} {cs : List Value} (h : Ty.At S w t cs) : ∃ A cap B capb, cs = [.int .i64 t.kind, .string t.name, .slice A t.elem.length cap, .slice B t.attrs.length capb] ∧ (I64 t.kind ∧ t.name.size ≤ maxLen) ∧
    tyR.RowsAt S w t.elem (.slice A t.elem.length cap) ∧ atrR.RowsAt S w t.attrs (.slice B t.attrs.length capb) := by
  obtain ⟨k, n, e, a⟩ := t
  unfold Ty.At at h
  obtain ⟨A, cap, B, capb, rfl, h1, h2, h3, h4, h5⟩ := h
  exact ⟨A, cap, B, capb, rfl, h1, ⟨A, cap, rfl, h2, fun hn => let ⟨b, o, e, hs, hr⟩ := h4 hn; ⟨b, o, e, hs, hr.row⟩⟩, ⟨B, capb, rfl, h3, fun hn => let ⟨b, o, e, hs, hr⟩ := h5 hn; ⟨b, o, e, hs, hr.row⟩⟩⟩
theorem Ty.At.of {S : Nat → Prop} {w : World} {k : Int} {n : ByteArray} {e : List Ty} {a : List Atr} {ve va : Value} (hk : I64 k) (hn : n.size ≤ maxLen) (he : tyR.RowsAt S w e ve) (ha : atrR.RowsAt S w a va) :
    Ty.At S w (.mk k n e a) [.int .i64 k, .string n, ve, va] := by
  obtain ⟨A, cap, rfl, h2, h4⟩ := he
  obtain ⟨B, capb, rfl, h3, h5⟩ := ha
  unfold Ty.At
  exact ⟨A, cap, B, capb, rfl, ⟨hk, hn⟩, h2, h3, fun hn => let ⟨b, o, e, hs, hr⟩ := h4 hn; ⟨b, o, e, hs, .mk hr⟩, fun hn => let ⟨b, o, e, hs, hr⟩ := h5 hn; ⟨b, o, e, hs, .mk hr⟩⟩
/-- an attribute's cells -/
theorem Atr.At.parts {S : Nat → Prop} {w : World} {a : Atr} {cs : List Value} (h : Atr.At S w a cs) : ∃ tc, cs = .string a.name :: (tc ++ [.bool a.opt]) ∧ a.name.size ≤ maxLen ∧ Ty.At S w a.ty tc := by
  obtain ⟨n, t, o⟩ := a
  unfold Atr.At at h
  exact h
theorem Atr.At.shape {S : Nat → Prop} {w : World} {a : Atr} {cs : List Value} (h : Atr.At S w a cs) : ∃ A la ca B lb cb, cs = [.string a.name, .int .i64 a.ty.kind, .string a.ty.name, .slice A la ca, .slice B lb cb, .bool a.opt] ∧ a.name.size ≤ maxLen ∧
    Ty.At S w a.ty [.int .i64 a.ty.kind, .string a.ty.name, .slice A la ca, .slice B lb cb] := by
  obtain ⟨tc, rfl, h1, h2⟩ := h.parts
  obtain ⟨A, cap, B, capb, rfl, _⟩ := h2.parts
  exact ⟨A, _, cap, B, _, capb, rfl, h1, h2⟩

/-- an entity type of a schema -/
structure EntT where
  name : ByteArray
  ins : List ByteArray
  attrs : List Atr
/-- an action of a schema -/
structure ActT where
  id : ByteArray
  ins : List ByteArray
  prs : List ByteArray
  res : List ByteArray
  ctx : List Atr
def entTR : Rep EntT where
  size := 3
  pos := by omega
  At S w x cs := ∃ v1 v2, cs = [.string x.name, v1, v2] ∧ x.name.size ≤ maxLen ∧ strR.RowsAt S w x.ins v1 ∧ atrR.RowsAt S w x.attrs v2
  len := by rintro S w x cs ⟨v1, v2, rfl, _⟩; rfl
  one := by
    rintro S w x cs ⟨v1, v2, rfl, _, h1, h2⟩ u hu
    simp at hu
    rcases hu with rfl | rfl | rfl
    · rfl
    · exact h1.one
    · exact h2.one
  alike := by rintro S w w' x cs ⟨v1, v2, rfl, h0, h1, h2⟩ k; exact ⟨v1, v2, rfl, h0, h1.alike k, h2.alike k⟩
  mono := by rintro S S' w x cs ⟨v1, v2, rfl, h0, h1, h2⟩ k; exact ⟨v1, v2, rfl, h0, h1.mono k, h2.mono k⟩
def actTR : Rep ActT where
  size := 5
  pos := by omega
  At S w x cs := ∃ v1 v2 v3 v4, cs = [.string x.id, v1, v2, v3, v4] ∧ x.id.size ≤ maxLen ∧ strR.RowsAt S w x.ins v1 ∧ strR.RowsAt S w x.prs v2 ∧ strR.RowsAt S w x.res v3 ∧ atrR.RowsAt S w x.ctx v4
  len := by rintro S w x cs ⟨v1, v2, v3, v4, rfl, _⟩; rfl
  one := by
    rintro S w x cs ⟨v1, v2, v3, v4, rfl, _, h1, h2, h3, h4⟩ u hu
    simp at hu
    rcases hu with rfl | rfl | rfl | rfl | rfl
    · rfl
    · exact h1.one
    · exact h2.one
    · exact h3.one
    · exact h4.one
  alike := by rintro S w w' x cs ⟨v1, v2, v3, v4, rfl, h0, h1, h2, h3, h4⟩ k; exact ⟨v1, v2, v3, v4, rfl, h0, h1.alike k, h2.alike k, h3.alike k, h4.alike k⟩
  mono := by rintro S S' w x cs ⟨v1, v2, v3, v4, rfl, h0, h1, h2, h3, h4⟩ k; exact ⟨v1, v2, v3, v4, rfl, h0, h1.mono k, h2.mono k, h3.mono k, h4.mono k⟩
/-- a schema -/
structure Sch where
  types : List EntT
  acts : List ActT
/-- a schema as an argument -/
def Sch.At (S : Nat → Prop) (w : World) (s : Sch) (cs : List Value) : Prop := ∃ v1 v2, cs = [v1, v2] ∧ entTR.RowsAt S w s.types v1 ∧ actTR.RowsAt S w s.acts v2
theorem Sch.At.alike {S : Nat → Prop} {w w' : World} {s : Sch} {cs : List Value} (h : Sch.At S w s cs) (k : Alike S w w') : Sch.At S w' s cs := by
  obtain ⟨v1, v2, rfl, h1, h2⟩ := h; exact ⟨v1, v2, rfl, h1.alike k, h2.alike k⟩
theorem Sch.At.mono {S S' : Nat → Prop} {w : World} {s : Sch} {cs : List Value} (h : Sch.At S w s cs) (k : ∀ b, S b → S' b) : Sch.At S' w s cs := by
  obtain ⟨v1, v2, rfl, h1, h2⟩ := h; exact ⟨v1, v2, rfl, h1.mono k, h2.mono k⟩
end Go.Proofs.YtjllolagcdjlnaaGreat
