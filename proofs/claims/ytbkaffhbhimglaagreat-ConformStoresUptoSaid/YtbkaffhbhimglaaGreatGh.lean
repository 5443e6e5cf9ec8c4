/-
  Words for memory: types of a schema. The conditions: none (definitions and lemmas).
-/
import Derived.Test.YtbkaffhbhimglaaGreatGa
import Derived.Test.YtbkaffhbhimglaaGreatGc
import Derived.Test.YtbkaffhbhimglaaGreatGd
import Derived.Test.YtbkaffhbhimglaaGreatGe
namespace Go.Proofs.YtbkaffhbhimglaaGreat
open Go.RowKit
mutual
inductive Ty where
 | mk (kind : Int) (name : ByteArray) (elem : List Ty) (attrs : List Atr)
inductive Atr where
 | mk (name : ByteArray) (ty : Ty) (opt : Bool)
end
namespace Ty
def kind : Ty → Int | mk k _ _ _ => k
def name : Ty → ByteArray | mk _ n _ _ => n
def elem : Ty → List Ty | mk _ _ e _ => e
def attrs : Ty → List Atr | mk _ _ _ a => a
end Ty
namespace Atr
def name : Atr → ByteArray | mk n _ _ => n
def ty : Atr → Ty | mk _ t _ => t
def opt : Atr → Bool | mk _ _ o => o
end Atr
mutual
def Ty.At (S : Nat → Prop) (w : World) : Ty → List Value → Prop
 | .mk k name elem attrs, cs => ∃ A cap B capb, cs = [.int .i64 k, .string name, .slice A elem.length cap, .slice B attrs.length capb] ∧ (I64 k ∧ name.size ≤ maxLen) ∧
   (elem.length ≤ LIM ∧ elem.length ≤ cap ∧ cap ≤ maxLen) ∧ (attrs.length ≤ LIM ∧ attrs.length ≤ capb ∧ capb ≤ maxLen) ∧
   (0 < elem.length → ∃ b o, A = some ⟨b, o, none⟩ ∧ S b ∧ Ty.RowAt S w elem b o) ∧ (0 < attrs.length → ∃ b o, B = some ⟨b, o, none⟩ ∧ S b ∧ Atr.RowAt S w attrs b o)
def Ty.RowAt (S : Nat → Prop) (w : World) : List Ty → Nat → Nat → Prop
 | [], _, _ => True
 | v :: r, b, o => (∃ cs, cs.length = 4 ∧ CellsAt w b o cs ∧ Ty.At S w v cs) ∧ Ty.RowAt S w r b (o + 4)
def Atr.At (S : Nat → Prop) (w : World) : Atr → List Value → Prop
 | .mk n t opt, cs => ∃ tc, cs = .string n :: (tc ++ [.bool opt]) ∧ n.size ≤ maxLen ∧ Ty.At S w t tc
def Atr.RowAt (S : Nat → Prop) (w : World) : List Atr → Nat → Nat → Prop
 | [], _, _ => True
 | v :: r, b, o => (∃ cs, cs.length = 6 ∧ CellsAt w b o cs ∧ Atr.At S w v cs) ∧ Atr.RowAt S w r b (o + 6)
end
theorem Ty.At.length {S : Nat → Prop} {w : World} {t : Ty} {cs : List Value} (h : Ty.At S w t cs) : cs.length = 4 := by
 cases t; unfold Ty.At at h; obtain ⟨_, _, _, _, rfl, _⟩ := h; rfl
mutual
theorem Ty.At.alike {S : Nat → Prop} {w w' : World} (k : Alike S w w') : ∀ (t : Ty) (cs : List Value), Ty.At S w t cs → Ty.At S w' t cs
 | .mk _ _ elem attrs, cs, h => by
  unfold Ty.At at h ⊢
  obtain ⟨A, cap, B, capb, e, h1, h2, h3, h4, h5⟩ := h
  exact ⟨A, cap, B, capb, e, h1, h2, h3, fun hn => let ⟨b, o, e, hs, hc⟩ := h4 hn; ⟨b, o, e, hs, Ty.RowAt.alike k hs elem o hc⟩, fun hn => let ⟨b, o, e, hs, hc⟩ := h5 hn; ⟨b, o, e, hs, Atr.RowAt.alike k hs attrs o hc⟩⟩
theorem Ty.RowAt.alike {S : Nat → Prop} {w w' : World} (k : Alike S w w') {b : Nat} (hs : S b) : ∀ (l : List Ty) (o : Nat), Ty.RowAt S w l b o → Ty.RowAt S w' l b o
 | [], _, _ => by unfold Ty.RowAt; trivial
 | v :: r, o, h => by
  unfold Ty.RowAt at h ⊢
  obtain ⟨⟨cs, hl, hc, hv⟩, hr⟩ := h
  exact ⟨⟨cs, hl, hc.alike hs k, Ty.At.alike k v cs hv⟩, Ty.RowAt.alike k hs r (o + 4) hr⟩
theorem Atr.At.alike {S : Nat → Prop} {w w' : World} (k : Alike S w w') : ∀ (a : Atr) (cs : List Value), Atr.At S w a cs → Atr.At S w' a cs
 | .mk _ t _, cs, h => by
  unfold Atr.At at h ⊢
  obtain ⟨tc, e, h1, h2⟩ := h
  exact ⟨tc, e, h1, Ty.At.alike k t tc h2⟩
theorem Atr.RowAt.alike {S : Nat → Prop} {w w' : World} (k : Alike S w w') {b : Nat} (hs : S b) : ∀ (l : List Atr) (o : Nat), Atr.RowAt S w l b o → Atr.RowAt S w' l b o
 | [], _, _ => by unfold Atr.RowAt; trivial
 | v :: r, o, h => by
  unfold Atr.RowAt at h ⊢
  obtain ⟨⟨cs, hl, hc, hv⟩, hr⟩ := h
  exact ⟨⟨cs, hl, hc.alike hs k, Atr.At.alike k v cs hv⟩, Atr.RowAt.alike k hs r (o + 6) hr⟩
end
mutual
theorem Ty.At.mono {S S' : Nat → Prop} {w : World} (k : ∀ b, S b → S' b) : ∀ (t : Ty) (cs : List Value), Ty.At S w t cs → Ty.At S' w t cs
 | .mk _ _ elem attrs, cs, h => by
  unfold Ty.At at h ⊢
  obtain ⟨A, cap, B, capb, e, h1, h2, h3, h4, h5⟩ := h
  exact ⟨A, cap, B, capb, e, h1, h2, h3, fun hn => let ⟨b, o, e, hs, hc⟩ := h4 hn; ⟨b, o, e, k b hs, Ty.RowAt.mono k elem b o hc⟩, fun hn => let ⟨b, o, e, hs, hc⟩ := h5 hn; ⟨b, o, e, k b hs, Atr.RowAt.mono k attrs b o hc⟩⟩
theorem Ty.RowAt.mono {S S' : Nat → Prop} {w : World} (k : ∀ b, S b → S' b) : ∀ (l : List Ty) (b o : Nat), Ty.RowAt S w l b o → Ty.RowAt S' w l b o
 | [], _, _, _ => by unfold Ty.RowAt; trivial
 | v :: r, b, o, h => by
  unfold Ty.RowAt at h ⊢
  obtain ⟨⟨cs, hl, hc, hv⟩, hr⟩ := h
  exact ⟨⟨cs, hl, hc, Ty.At.mono k v cs hv⟩, Ty.RowAt.mono k r b (o + 4) hr⟩
theorem Atr.At.mono {S S' : Nat → Prop} {w : World} (k : ∀ b, S b → S' b) : ∀ (a : Atr) (cs : List Value), Atr.At S w a cs → Atr.At S' w a cs
 | .mk _ t _, cs, h => by
  unfold Atr.At at h ⊢
  obtain ⟨tc, e, h1, h2⟩ := h
  exact ⟨tc, e, h1, Ty.At.mono k t tc h2⟩
theorem Atr.RowAt.mono {S S' : Nat → Prop} {w : World} (k : ∀ b, S b → S' b) : ∀ (l : List Atr) (b o : Nat), Atr.RowAt S w l b o → Atr.RowAt S' w l b o
 | [], _, _, _ => by unfold Atr.RowAt; trivial
 | v :: r, b, o, h => by
  unfold Atr.RowAt at h ⊢
  obtain ⟨⟨cs, hl, hc, hv⟩, hr⟩ := h
  exact ⟨⟨cs, hl, hc, Atr.At.mono k v cs hv⟩, Atr.RowAt.mono k r b (o + 6) hr⟩
end
theorem Ty.RowAt.get {S : Nat → Prop} {w : World} : ∀ {l : List Ty} {b o : Nat}, Ty.RowAt S w l b o → ∀ {i : Nat} {x : Ty}, l[i]? = some x →
  ∃ cs, cs.length = 4 ∧ CellsAt w b (o + i * 4) cs ∧ Ty.At S w x cs
 | [], _, _, _, _, _, h => by simp at h
 | v :: r, b, o, h, 0, x, hx => by
  unfold Ty.RowAt at h; simp at hx; subst hx; simpa using h.1
 | v :: r, b, o, h, i + 1, x, hx => by
  unfold Ty.RowAt at h
  obtain ⟨cs, h1, h2, h3⟩ := Ty.RowAt.get h.2 (i := i) (x := x) (by simpa using hx)
  exact ⟨cs, h1, by rw [show o + (i + 1) * 4 = o + 4 + i * 4 from by omega]; exact h2, h3⟩
theorem Atr.RowAt.get {S : Nat → Prop} {w : World} : ∀ {l : List Atr} {b o : Nat}, Atr.RowAt S w l b o → ∀ {i : Nat} {x : Atr}, l[i]? = some x →
  ∃ cs, cs.length = 6 ∧ CellsAt w b (o + i * 6) cs ∧ Atr.At S w x cs
 | [], _, _, _, _, _, h => by simp at h
 | v :: r, b, o, h, 0, x, hx => by
  unfold Atr.RowAt at h; simp at hx; subst hx; simpa using h.1
 | v :: r, b, o, h, i + 1, x, hx => by
  unfold Atr.RowAt at h
  obtain ⟨cs, h1, h2, h3⟩ := Atr.RowAt.get h.2 (i := i) (x := x) (by simpa using hx)
  exact ⟨cs, h1, by rw [show o + (i + 1) * 6 = o + 6 + i * 6 from by omega]; exact h2, h3⟩
mutual
def Ty.dep : Ty → Nat
 | .mk _ _ elem attrs => max (Ty.deps elem) (Atr.deps attrs) + 1
def Ty.deps : List Ty → Nat
 | [] => 0
 | t :: r => max t.dep (Ty.deps r)
def Atr.dep : Atr → Nat
 | .mk _ t _ => t.dep
def Atr.deps : List Atr → Nat
 | [] => 0
 | a :: r => max a.dep (Atr.deps r)
end
end Go.Proofs.YtbkaffhbhimglaaGreat

/-
  Types and schemas in memory, as kinds of things that lie in cells. The conditions: none (definitions and lemmas).
-/
namespace Go.Proofs.YtbkaffhbhimglaaGreat
open Go.RowKit
theorem Ty.At.one {S : Nat → Prop} {w : World} {t : Ty} {cs : List Value} (h : Ty.At S w t cs) : ∀ u ∈ cs, u.oneCell' = true := by
 cases t; unfold Ty.At at h; obtain ⟨_, _, _, _, rfl, _⟩ := h
 intro u hu
 simp at hu
 rcases hu with rfl | rfl | rfl | rfl <;> rfl
def tyR : Rep Ty where
 size := 4
 pos := by omega
 At S w x cs := Ty.At S w x cs
 len h := h.length
 one h := h.one
 alike h k := Ty.At.alike k _ _ h
 mono h k := Ty.At.mono k _ _ h
theorem Atr.At.length {S : Nat → Prop} {w : World} {t : Atr} {cs : List Value} (h : Atr.At S w t cs) : cs.length = 6 := by
 cases t; unfold Atr.At at h; obtain ⟨tc, rfl, _, h⟩ := h
 have := h.length
 simp; omega
theorem Atr.At.one {S : Nat → Prop} {w : World} {t : Atr} {cs : List Value} (h : Atr.At S w t cs) : ∀ u ∈ cs, u.oneCell' = true := by
 cases t; unfold Atr.At at h; obtain ⟨tc, rfl, _, h⟩ := h
 intro u hu
 simp only [List.mem_cons, List.mem_append, List.mem_nil_iff, or_false] at hu
 rcases hu with rfl | hu | rfl
 ·rfl
 ·exact h.one u hu
 ·rfl
def atrR : Rep Atr where
 size := 6
 pos := by omega
 At S w x cs := Atr.At S w x cs
 len h := h.length
 one h := h.one
 alike h k := Atr.At.alike k _ _ h
 mono h k := Atr.At.mono k _ _ h
theorem Ty.RowAt.mk {S : Nat → Prop} {w : World} : ∀ {l : List Ty} {b o : Nat}, tyR.RowAt S w l b o → Ty.RowAt S w l b o
 | [], _, _, _ => by unfold Ty.RowAt; trivial
 | v :: r, b, o, h => by
  unfold Ty.RowAt
  obtain ⟨cs, h1, h2⟩ := h 0 v rfl
  refine ⟨⟨cs, Ty.At.length h2, by simpa using h1, h2⟩, Ty.RowAt.mk fun i x hx => ?_⟩
  obtain ⟨cs, h1, h2⟩ := h (i + 1) x (by simpa using hx)
  exact ⟨cs, by rw [show o + 4 + i * tyR.size = o + (i + 1) * tyR.size from by simp [tyR]; omega]; exact h1, h2⟩
theorem Atr.RowAt.mk {S : Nat → Prop} {w : World} : ∀ {l : List Atr} {b o : Nat}, atrR.RowAt S w l b o → Atr.RowAt S w l b o
 | [], _, _, _ => by unfold Atr.RowAt; trivial
 | v :: r, b, o, h => by
  unfold Atr.RowAt
  obtain ⟨cs, h1, h2⟩ := h 0 v rfl
  refine ⟨⟨cs, Atr.At.length h2, by simpa using h1, h2⟩, Atr.RowAt.mk fun i x hx => ?_⟩
  obtain ⟨cs, h1, h2⟩ := h (i + 1) x (by simpa using hx)
  exact ⟨cs, by rw [show o + 6 + i * atrR.size = o + (i + 1) * atrR.size from by simp [atrR]; omega]; exact h1, h2⟩
theorem Ty.RowAt.row {S : Nat → Prop} {w : World} {l : List Ty} {b o : Nat} (h : Ty.RowAt S w l b o) : tyR.RowAt S w l b o := fun i x hx => by
 obtain ⟨cs, _, h2, h3⟩ := h.get hx
 exact ⟨cs, h2, h3⟩
theorem Atr.RowAt.row {S : Nat → Prop} {w : World} {l : List Atr} {b o : Nat} (h : Atr.RowAt S w l b o) : atrR.RowAt S w l b o := fun i x hx => by
 obtain ⟨cs, _, h2, h3⟩ := h.get hx
 exact ⟨cs, h2, h3⟩
theorem Ty.At.parts {S : Nat → Prop} {w : World} {t : Ty} {cs : List Value} (h : Ty.At S w t cs) : ∃ A cap B capb, cs = [.int .i64 t.kind, .string t.name, .slice A t.elem.length cap, .slice B t.attrs.length capb] ∧ (I64 t.kind ∧ t.name.size ≤ maxLen) ∧
  tyR.RowsAt S w t.elem (.slice A t.elem.length cap) ∧ atrR.RowsAt S w t.attrs (.slice B t.attrs.length capb) := by
 obtain ⟨k, n, e, a⟩ := t
 unfold Ty.At at h
 obtain ⟨A, cap, B, capb, rfl, h1, h2, h3, h4, h5⟩ := h
 exact ⟨A, cap, B, capb, rfl, h1, ⟨A, cap, rfl, h2, fun hn => let ⟨b, o, e, hs, hr⟩ := h4 hn; ⟨b, o, e, hs, hr.row⟩⟩, ⟨B, capb, rfl, h3, fun hn => let ⟨b, o, e, hs, hr⟩ := h5 hn; ⟨b, o, e, hs, hr.row⟩⟩⟩
theorem Ty.At.of {S : Nat → Prop} {w : World} {k : Int} {n : ByteArray} {e : List Ty} {a : List Atr} {ve va : Value} (hk : I64 k) (hn : n.size ≤ maxLen) (he : tyR.RowsAt S w e ve) (ha : atrR.RowsAt S w a va) :
  Ty.At S w (.mk k n e a) [.int .i64 k, .string n, ve, va] := by
 obtain ⟨A, cap, rfl, h2, h4⟩ := he
 obtain ⟨B, capb, rfl, h3, h5⟩ := ha
 unfold Ty.At
 exact ⟨A, cap, B, capb, rfl, ⟨hk, hn⟩, h2, h3, fun hn => let ⟨b, o, e, hs, hr⟩ := h4 hn; ⟨b, o, e, hs, .mk hr⟩, fun hn => let ⟨b, o, e, hs, hr⟩ := h5 hn; ⟨b, o, e, hs, .mk hr⟩⟩
theorem Atr.At.parts {S : Nat → Prop} {w : World} {a : Atr} {cs : List Value} (h : Atr.At S w a cs) : ∃ tc, cs = .string a.name :: (tc ++ [.bool a.opt]) ∧ a.name.size ≤ maxLen ∧ Ty.At S w a.ty tc := by
 obtain ⟨n, t, o⟩ := a
 unfold Atr.At at h
 exact h
theorem Atr.At.shape {S : Nat → Prop} {w : World} {a : Atr} {cs : List Value} (h : Atr.At S w a cs) : ∃ A la ca B lb cb, cs = [.string a.name, .int .i64 a.ty.kind, .string a.ty.name, .slice A la ca, .slice B lb cb, .bool a.opt] ∧ a.name.size ≤ maxLen ∧
  Ty.At S w a.ty [.int .i64 a.ty.kind, .string a.ty.name, .slice A la ca, .slice B lb cb] := by
 obtain ⟨tc, rfl, h1, h2⟩ := h.parts
 obtain ⟨A, cap, B, capb, rfl, _⟩ := h2.parts
 exact ⟨A, _, cap, B, _, capb, rfl, h1, h2⟩
structure EntT where
 name : ByteArray
 ins : List ByteArray
 attrs : List Atr
structure ActT where
 id : ByteArray
 ins : List ByteArray
 prs : List ByteArray
 res : List ByteArray
 ctx : List Atr
def entTR : Rep EntT where
 size := 3
 pos := by omega
 At S w x cs := ∃ v1 v2, cs = [.string x.name, v1, v2] ∧ x.name.size ≤ maxLen ∧ strR.RowsAt S w x.ins v1 ∧ atrR.RowsAt S w x.attrs v2
 len := by rintro S w x cs ⟨v1, v2, rfl, _⟩; rfl
 one := by
  rintro S w x cs ⟨v1, v2, rfl, _, h1, h2⟩ u hu
  simp at hu
  rcases hu with rfl | rfl | rfl
  ·rfl
  ·exact h1.one
  ·exact h2.one
 alike := by rintro S w w' x cs ⟨v1, v2, rfl, h0, h1, h2⟩ k; exact ⟨v1, v2, rfl, h0, h1.alike k, h2.alike k⟩
 mono := by rintro S S' w x cs ⟨v1, v2, rfl, h0, h1, h2⟩ k; exact ⟨v1, v2, rfl, h0, h1.mono k, h2.mono k⟩
def actTR : Rep ActT where
 size := 5
 pos := by omega
 At S w x cs := ∃ v1 v2 v3 v4, cs = [.string x.id, v1, v2, v3, v4] ∧ x.id.size ≤ maxLen ∧ strR.RowsAt S w x.ins v1 ∧ strR.RowsAt S w x.prs v2 ∧ strR.RowsAt S w x.res v3 ∧ atrR.RowsAt S w x.ctx v4
 len := by rintro S w x cs ⟨v1, v2, v3, v4, rfl, _⟩; rfl
 one := by
  rintro S w x cs ⟨v1, v2, v3, v4, rfl, _, h1, h2, h3, h4⟩ u hu
  simp at hu
  rcases hu with rfl | rfl | rfl | rfl | rfl
  ·rfl
  ·exact h1.one
  ·exact h2.one
  ·exact h3.one
  ·exact h4.one
 alike := by rintro S w w' x cs ⟨v1, v2, v3, v4, rfl, h0, h1, h2, h3, h4⟩ k; exact ⟨v1, v2, v3, v4, rfl, h0, h1.alike k, h2.alike k, h3.alike k, h4.alike k⟩
 mono := by rintro S S' w x cs ⟨v1, v2, v3, v4, rfl, h0, h1, h2, h3, h4⟩ k; exact ⟨v1, v2, v3, v4, rfl, h0, h1.mono k, h2.mono k, h3.mono k, h4.mono k⟩
structure Sch where
 types : List EntT
 acts : List ActT
def Sch.At (S : Nat → Prop) (w : World) (s : Sch) (cs : List Value) : Prop := ∃ v1 v2, cs = [v1, v2] ∧ entTR.RowsAt S w s.types v1 ∧ actTR.RowsAt S w s.acts v2
theorem Sch.At.alike {S : Nat → Prop} {w w' : World} {s : Sch} {cs : List Value} (h : Sch.At S w s cs) (k : Alike S w w') : Sch.At S w' s cs := by
 obtain ⟨v1, v2, rfl, h1, h2⟩ := h; exact ⟨v1, v2, rfl, h1.alike k, h2.alike k⟩
theorem Sch.At.mono {S S' : Nat → Prop} {w : World} {s : Sch} {cs : List Value} (h : Sch.At S w s cs) (k : ∀ b, S b → S' b) : Sch.At S' w s cs := by
 obtain ⟨v1, v2, rfl, h1, h2⟩ := h; exact ⟨v1, v2, rfl, h1.mono k, h2.mono k⟩
end Go.Proofs.YtbkaffhbhimglaaGreat

/-
  Is a value of a type; is each value of one type of another one; a value of a type is of each one above it. No program in sight. The conditions: none (definitions and lemmas).
-/
namespace Go.Proofs.YtbkaffhbhimglaaGreat
open Go.RowKit
mutual
def Ty.takes : Ty → Val → Bool
 | .mk k name elem attrs, .mk vk bo _ _ ut _ items names =>
  if k = 1 then decide (vk = 1) && bo else if k = 2 then decide (vk = 1) && !bo else if k = 3 then decide (vk = 1) else if k = 4 then decide (vk = 2) else if k = 5 then decide (vk = 3)
  else if k = 6 then decide (vk = 4) && decide (ut = name) else if k = 7 then decide (vk = 5) && items.all (fun x => Ty.takesOne elem x)
  else if k = 8 then decide (vk = 6) && ((names.zip items).all (fun p => Atr.takes attrs p.1 p.2) && attrs.all (fun a => a.opt || names.any fun n => decide (n = a.name))) else false
def Ty.takesOne : List Ty → Val → Bool
 | [], _ => false
 | t :: r, x => r.isEmpty && t.takes x
def Atr.takes1 : Atr → Val → Bool
 | .mk _ t _, x => t.takes x
def Atr.takes : List Atr → ByteArray → Val → Bool
 | [], _, _ => false
 | a :: r, n, x => if a.name = n then a.takes1 x else Atr.takes r n x
end
mutual
def Ty.ones : Ty → Bool
 | .mk k _ elem attrs => (decide (k ≠ 7) || elem.length == 1) && (Ty.onesL elem && Atr.onesL attrs)
def Ty.onesL : List Ty → Bool
 | [] => true
 | t :: r => t.ones && Ty.onesL r
def Atr.ones1 : Atr → Bool
 | .mk _ t _ => t.ones
def Atr.onesL : List Atr → Bool
 | [] => true
 | a :: r => a.ones1 && Atr.onesL r
end
end Go.Proofs.YtbkaffhbhimglaaGreat

/-
  The first of a row that something is so of, and whether there is one. The conditions: the row lies in memory as it should, and what is asked of each is answered.
-/
namespace Go.Proofs.YtbkaffhbhimglaaGreat
open Go.RowKit
open Lib renaming hid → q_
set_option maxRecDepth 100000
set_option maxHeartbeats 400000
theorem Tryz.aggRV : ∀ w, (isAgg 46).run Tryz.prog w = .ok true w := fun _ => by kernel_rfl
theorem Tryz.sizeRV : ∀ w, (Go.sizeOf 46).run Tryz.prog w = .ok 8 w := fun _ => by kernel_rfl
theorem indexFuncRV {α : Type} (R : Rep α) (hz : R.size = 8) (g : Nat) (cb : Array Value) (p : α → Bool) (S : Nat → Prop) (l : List α) (v : Value) (w : World) (eg : ∀ args w, (callFunc g args).run Tryz.prog w = .ok (.enter g args) w)
  (hS : ∀ b, S b → b < w.heap.size) (hl : R.RowsAt S w l v)
  (hc : ∀ x ∈ l, ∀ (cs : List Value) (w1 : World), Ext w w1 → R.At S w1 x cs → Calls Tryz.prog g (#[.agg cs.toArray] ++ cb) w1 fun e w' => e = .returned (.bool (p x)) ∧ Ext w1 w') :
  Calls Tryz.prog 70 #[v, .func (.func g) #[] cb] w fun e w' => e = .returned (.int .i64 (pos (fidx p l))) ∧ Ext w w' := by
 obtain ⟨A, cap, rfl, ⟨hl0, hl1, hl2⟩, hlr⟩ := hl
 rw [zak] at hl0
 rw [zab] at hl2
 have HL := q_ hlr
 have HS := q_ hS
 have HC := q_ hc
 have HZ := q_ hz
 clear hlr hS hc hz
 go_enter Tryz.func70, Tryz.ntmps70
 go_wp2_with fail
 go_loopw [8] (fun i wr => ∃ k : Nat, k ≤ l.length ∧ i = .int .i64 k ∧ Ext w wr ∧ Hid (∀ i x, i < k → l[i]? = some x → p x = false)) (fun i _ => l.length - (intOf i).toNat)
 case atStart => exact ⟨0, Nat.zero_le _, rfl, Ext.refl w, fun _ _ h => by omega⟩
 case round =>
  obtain ⟨k, hk, rfl, hext, Hall⟩ := hrel
  have HX := q_ hext
  clear hext
  by_cases hlt : k < l.length
  ·obtain ⟨b, o, rfl, hSb, hrow⟩ := HL.out (by omega)
   obtain ⟨x, hx⟩ : ∃ x, l[k]? = some x := ⟨_, List.getElem?_eq_getElem hlt⟩
   obtain ⟨cs, hca, hat⟩ := hrow k x hx
   rw [HZ.out] at hca
   have Hcl := q_ ((R.len hat).trans HZ.out)
   have Hca := q_ (hca.alike hSb (Alike.of_ext HX.out HS.out))
   have Hx := q_ hx
   have hgen := HC.out x (List.mem_of_getElem? hx) cs wr HX.out (R.alike hat (Alike.of_ext HX.out HS.out))
   generalize hpx : p x = px at *
   have HP := q_ hpx
   have HG := q_ hgen
   clear hx hca hrow hSb hpx hgen hat
   go_wp2_with (first | refine zac rfl 46 _ rfl b (o + k * 8) rfl Tryz.aggRV Tryz.sizeRV Hcl.out Hca.out ?_)
   refine HG.out.mono ?_
   rintro e w' ⟨rfl, hx2⟩
   have HX2 := q_ hx2
   clear hx2
   cases px
   ·go_wp2_with fail
    go_roundw
    case rel => exact ⟨k + 1, by omega, by go_num, HX.out.trans HX2.out, fun i y hi hy => by
     by_cases hik : i = k
     ·subst hik; rw [Hx.out] at hy; cases hy; exact HP.out
     ·exact Hall.out i y (by omega) hy⟩
    case measure => simp [intOf]; omega
   ·go_wp2_with fail
    go_ret
    exact ⟨zag (by rw [zbl Hx.out HP.out Hall.out]; rfl), HX.out.trans HX2.out⟩
  ·go_wp2_with fail
   go_ret
   have hke : k = l.length := by omega
   subst hke
   exact ⟨zag (by rw [zby Hall.out]; rfl), HX.out⟩
theorem containsFuncRV {α : Type} (R : Rep α) (hz : R.size = 8) (g : Nat) (cb : Array Value) (p : α → Bool) (S : Nat → Prop) (l : List α) (v : Value) (w : World) (eg : ∀ args w, (callFunc g args).run Tryz.prog w = .ok (.enter g args) w)
  (hS : ∀ b, S b → b < w.heap.size) (hl : R.RowsAt S w l v)
  (hc : ∀ x ∈ l, ∀ (cs : List Value) (w1 : World), Ext w w1 → R.At S w1 x cs → Calls Tryz.prog g (#[.agg cs.toArray] ++ cb) w1 fun e w' => e = .returned (.bool (p x)) ∧ Ext w1 w') :
  Calls Tryz.prog 39 #[v, .func (.func g) #[] cb] w fun e w' => e = .returned (.bool (l.any p)) ∧ Ext w w' := by
 have hi := indexFuncRV R hz g cb p S l v w eg hS hl hc
 rw [← zch]
 cases hf : fidx p l with
 | none =>
  rw [hf] at hi
  have HI := q_ hi
  clear hi hc hS hl hf eg
  go_enter Tryz.func39, Tryz.ntmps39
  go_wp2_with (go_at_call 70; refine HI.out.mono ?_; rintro e w' ⟨rfl, hx2⟩; have HX2 := q_ hx2; clear hx2)
  go_ret
  exact ⟨rfl, HX2.out⟩
 | some i =>
  rw [hf] at hi
  have HI := q_ hi
  clear hi hc hS hl hf eg
  go_enter Tryz.func39, Tryz.ntmps39
  go_wp2_with (go_at_call 70; refine HI.out.mono ?_; rintro e w' ⟨rfl, hx2⟩; have HX2 := q_ hx2; clear hx2)
  go_ret
  exact ⟨zal (by simp [pos]), HX2.out⟩
theorem Tryz.aggRE : ∀ w, (isAgg 49).run Tryz.prog w = .ok true w := fun _ => by kernel_rfl
theorem Tryz.sizeRE : ∀ w, (Go.sizeOf 49).run Tryz.prog w = .ok 11 w := fun _ => by kernel_rfl
theorem indexFuncRE {α : Type} (R : Rep α) (hz : R.size = 11) (g : Nat) (cb : Array Value) (p : α → Bool) (S : Nat → Prop) (l : List α) (v : Value) (w : World) (eg : ∀ args w, (callFunc g args).run Tryz.prog w = .ok (.enter g args) w)
  (hS : ∀ b, S b → b < w.heap.size) (hl : R.RowsAt S w l v)
  (hc : ∀ x ∈ l, ∀ (cs : List Value) (w1 : World), Ext w w1 → R.At S w1 x cs → Calls Tryz.prog g (#[.agg cs.toArray] ++ cb) w1 fun e w' => e = .returned (.bool (p x)) ∧ Ext w1 w') :
  Calls Tryz.prog 57 #[v, .func (.func g) #[] cb] w fun e w' => e = .returned (.int .i64 (pos (fidx p l))) ∧ Ext w w' := by
 obtain ⟨A, cap, rfl, ⟨hl0, hl1, hl2⟩, hlr⟩ := hl
 rw [zak] at hl0
 rw [zab] at hl2
 have HL := q_ hlr
 have HS := q_ hS
 have HC := q_ hc
 have HZ := q_ hz
 clear hlr hS hc hz
 go_enter Tryz.func57, Tryz.ntmps57
 go_wp2_with fail
 go_loopw [8] (fun i wr => ∃ k : Nat, k ≤ l.length ∧ i = .int .i64 k ∧ Ext w wr ∧ Hid (∀ i x, i < k → l[i]? = some x → p x = false)) (fun i _ => l.length - (intOf i).toNat)
 case atStart => exact ⟨0, Nat.zero_le _, rfl, Ext.refl w, fun _ _ h => by omega⟩
 case round =>
  obtain ⟨k, hk, rfl, hext, Hall⟩ := hrel
  have HX := q_ hext
  clear hext
  by_cases hlt : k < l.length
  ·obtain ⟨b, o, rfl, hSb, hrow⟩ := HL.out (by omega)
   obtain ⟨x, hx⟩ : ∃ x, l[k]? = some x := ⟨_, List.getElem?_eq_getElem hlt⟩
   obtain ⟨cs, hca, hat⟩ := hrow k x hx
   rw [HZ.out] at hca
   have Hcl := q_ ((R.len hat).trans HZ.out)
   have Hca := q_ (hca.alike hSb (Alike.of_ext HX.out HS.out))
   have Hx := q_ hx
   have hgen := HC.out x (List.mem_of_getElem? hx) cs wr HX.out (R.alike hat (Alike.of_ext HX.out HS.out))
   generalize hpx : p x = px at *
   have HP := q_ hpx
   have HG := q_ hgen
   clear hx hca hrow hSb hpx hgen hat
   go_wp2_with (first | refine zac rfl 49 _ rfl b (o + k * 11) rfl Tryz.aggRE Tryz.sizeRE Hcl.out Hca.out ?_)
   refine HG.out.mono ?_
   rintro e w' ⟨rfl, hx2⟩
   have HX2 := q_ hx2
   clear hx2
   cases px
   ·go_wp2_with fail
    go_roundw
    case rel => exact ⟨k + 1, by omega, by go_num, HX.out.trans HX2.out, fun i y hi hy => by
     by_cases hik : i = k
     ·subst hik; rw [Hx.out] at hy; cases hy; exact HP.out
     ·exact Hall.out i y (by omega) hy⟩
    case measure => simp [intOf]; omega
   ·go_wp2_with fail
    go_ret
    exact ⟨zag (by rw [zbl Hx.out HP.out Hall.out]; rfl), HX.out.trans HX2.out⟩
  ·go_wp2_with fail
   go_ret
   have hke : k = l.length := by omega
   subst hke
   exact ⟨zag (by rw [zby Hall.out]; rfl), HX.out⟩
theorem containsFuncRE {α : Type} (R : Rep α) (hz : R.size = 11) (g : Nat) (cb : Array Value) (p : α → Bool) (S : Nat → Prop) (l : List α) (v : Value) (w : World) (eg : ∀ args w, (callFunc g args).run Tryz.prog w = .ok (.enter g args) w)
  (hS : ∀ b, S b → b < w.heap.size) (hl : R.RowsAt S w l v)
  (hc : ∀ x ∈ l, ∀ (cs : List Value) (w1 : World), Ext w w1 → R.At S w1 x cs → Calls Tryz.prog g (#[.agg cs.toArray] ++ cb) w1 fun e w' => e = .returned (.bool (p x)) ∧ Ext w1 w') :
  Calls Tryz.prog 27 #[v, .func (.func g) #[] cb] w fun e w' => e = .returned (.bool (l.any p)) ∧ Ext w w' := by
 have hi := indexFuncRE R hz g cb p S l v w eg hS hl hc
 rw [← zch]
 cases hf : fidx p l with
 | none =>
  rw [hf] at hi
  have HI := q_ hi
  clear hi hc hS hl hf eg
  go_enter Tryz.func27, Tryz.ntmps27
  go_wp2_with (go_at_call 57; refine HI.out.mono ?_; rintro e w' ⟨rfl, hx2⟩; have HX2 := q_ hx2; clear hx2)
  go_ret
  exact ⟨rfl, HX2.out⟩
 | some i =>
  rw [hf] at hi
  have HI := q_ hi
  clear hi hc hS hl hf eg
  go_enter Tryz.func27, Tryz.ntmps27
  go_wp2_with (go_at_call 57; refine HI.out.mono ?_; rintro e w' ⟨rfl, hx2⟩; have HX2 := q_ hx2; clear hx2)
  go_ret
  exact ⟨zal (by simp [pos]), HX2.out⟩
theorem Tryz.aggRA : ∀ w, (isAgg 85).run Tryz.prog w = .ok true w := fun _ => by kernel_rfl
theorem zcy : ∀ w, (Go.sizeOf 85).run Tryz.prog w = .ok 6 w := fun _ => by kernel_rfl
theorem indexFuncRA {α : Type} (R : Rep α) (hz : R.size = 6) (g : Nat) (cb : Array Value) (p : α → Bool) (S : Nat → Prop) (l : List α) (v : Value) (w : World) (eg : ∀ args w, (callFunc g args).run Tryz.prog w = .ok (.enter g args) w)
  (hS : ∀ b, S b → b < w.heap.size) (hl : R.RowsAt S w l v)
  (hc : ∀ x ∈ l, ∀ (cs : List Value) (w1 : World), Ext w w1 → R.At S w1 x cs → Calls Tryz.prog g (#[.agg cs.toArray] ++ cb) w1 fun e w' => e = .returned (.bool (p x)) ∧ Ext w1 w') :
  Calls Tryz.prog 87 #[v, .func (.func g) #[] cb] w fun e w' => e = .returned (.int .i64 (pos (fidx p l))) ∧ Ext w w' := by
 obtain ⟨A, cap, rfl, ⟨hl0, hl1, hl2⟩, hlr⟩ := hl
 rw [zak] at hl0
 rw [zab] at hl2
 have HL := q_ hlr
 have HS := q_ hS
 have HC := q_ hc
 have HZ := q_ hz
 clear hlr hS hc hz
 go_enter Tryz.func87, Tryz.ntmps87
 go_wp2_with fail
 go_loopw [8] (fun i wr => ∃ k : Nat, k ≤ l.length ∧ i = .int .i64 k ∧ Ext w wr ∧ Hid (∀ i x, i < k → l[i]? = some x → p x = false)) (fun i _ => l.length - (intOf i).toNat)
 case atStart => exact ⟨0, Nat.zero_le _, rfl, Ext.refl w, fun _ _ h => by omega⟩
 case round =>
  obtain ⟨k, hk, rfl, hext, Hall⟩ := hrel
  have HX := q_ hext
  clear hext
  by_cases hlt : k < l.length
  ·obtain ⟨b, o, rfl, hSb, hrow⟩ := HL.out (by omega)
   obtain ⟨x, hx⟩ : ∃ x, l[k]? = some x := ⟨_, List.getElem?_eq_getElem hlt⟩
   obtain ⟨cs, hca, hat⟩ := hrow k x hx
   rw [HZ.out] at hca
   have Hcl := q_ ((R.len hat).trans HZ.out)
   have Hca := q_ (hca.alike hSb (Alike.of_ext HX.out HS.out))
   have Hx := q_ hx
   have hgen := HC.out x (List.mem_of_getElem? hx) cs wr HX.out (R.alike hat (Alike.of_ext HX.out HS.out))
   generalize hpx : p x = px at *
   have HP := q_ hpx
   have HG := q_ hgen
   clear hx hca hrow hSb hpx hgen hat
   go_wp2_with (first | refine zac rfl 85 _ rfl b (o + k * 6) rfl Tryz.aggRA zcy Hcl.out Hca.out ?_)
   refine HG.out.mono ?_
   rintro e w' ⟨rfl, hx2⟩
   have HX2 := q_ hx2
   clear hx2
   cases px
   ·go_wp2_with fail
    go_roundw
    case rel => exact ⟨k + 1, by omega, by go_num, HX.out.trans HX2.out, fun i y hi hy => by
     by_cases hik : i = k
     ·subst hik; rw [Hx.out] at hy; cases hy; exact HP.out
     ·exact Hall.out i y (by omega) hy⟩
    case measure => simp [intOf]; omega
   ·go_wp2_with fail
    go_ret
    exact ⟨zag (by rw [zbl Hx.out HP.out Hall.out]; rfl), HX.out.trans HX2.out⟩
  ·go_wp2_with fail
   go_ret
   have hke : k = l.length := by omega
   subst hke
   exact ⟨zag (by rw [zby Hall.out]; rfl), HX.out⟩
theorem containsFuncRA {α : Type} (R : Rep α) (hz : R.size = 6) (g : Nat) (cb : Array Value) (p : α → Bool) (S : Nat → Prop) (l : List α) (v : Value) (w : World) (eg : ∀ args w, (callFunc g args).run Tryz.prog w = .ok (.enter g args) w)
  (hS : ∀ b, S b → b < w.heap.size) (hl : R.RowsAt S w l v)
  (hc : ∀ x ∈ l, ∀ (cs : List Value) (w1 : World), Ext w w1 → R.At S w1 x cs → Calls Tryz.prog g (#[.agg cs.toArray] ++ cb) w1 fun e w' => e = .returned (.bool (p x)) ∧ Ext w1 w') :
  Calls Tryz.prog 64 #[v, .func (.func g) #[] cb] w fun e w' => e = .returned (.bool (l.any p)) ∧ Ext w w' := by
 have hi := indexFuncRA R hz g cb p S l v w eg hS hl hc
 rw [← zch]
 cases hf : fidx p l with
 | none =>
  rw [hf] at hi
  have HI := q_ hi
  clear hi hc hS hl hf eg
  go_enter Tryz.func64, Tryz.ntmps64
  go_wp2_with (go_at_call 87; refine HI.out.mono ?_; rintro e w' ⟨rfl, hx2⟩; have HX2 := q_ hx2; clear hx2)
  go_ret
  exact ⟨rfl, HX2.out⟩
 | some i =>
  rw [hf] at hi
  have HI := q_ hi
  clear hi hc hS hl hf eg
  go_enter Tryz.func64, Tryz.ntmps64
  go_wp2_with (go_at_call 87; refine HI.out.mono ?_; rintro e w' ⟨rfl, hx2⟩; have HX2 := q_ hx2; clear hx2)
  go_ret
  exact ⟨zal (by simp [pos]), HX2.out⟩
theorem Tryz.aggRT : ∀ w, (isAgg 39).run Tryz.prog w = .ok true w := fun _ => by kernel_rfl
theorem zcw : ∀ w, (Go.sizeOf 39).run Tryz.prog w = .ok 3 w := fun _ => by kernel_rfl
theorem indexFuncRT {α : Type} (R : Rep α) (hz : R.size = 3) (g : Nat) (cb : Array Value) (p : α → Bool) (S : Nat → Prop) (l : List α) (v : Value) (w : World) (eg : ∀ args w, (callFunc g args).run Tryz.prog w = .ok (.enter g args) w)
  (hS : ∀ b, S b → b < w.heap.size) (hl : R.RowsAt S w l v)
  (hc : ∀ x ∈ l, ∀ (cs : List Value) (w1 : World), Ext w w1 → R.At S w1 x cs → Calls Tryz.prog g (#[.agg cs.toArray] ++ cb) w1 fun e w' => e = .returned (.bool (p x)) ∧ Ext w1 w') :
  Calls Tryz.prog 58 #[v, .func (.func g) #[] cb] w fun e w' => e = .returned (.int .i64 (pos (fidx p l))) ∧ Ext w w' := by
 obtain ⟨A, cap, rfl, ⟨hl0, hl1, hl2⟩, hlr⟩ := hl
 rw [zak] at hl0
 rw [zab] at hl2
 have HL := q_ hlr
 have HS := q_ hS
 have HC := q_ hc
 have HZ := q_ hz
 clear hlr hS hc hz
 go_enter Tryz.func58, Tryz.ntmps58
 go_wp2_with fail
 go_loopw [8] (fun i wr => ∃ k : Nat, k ≤ l.length ∧ i = .int .i64 k ∧ Ext w wr ∧ Hid (∀ i x, i < k → l[i]? = some x → p x = false)) (fun i _ => l.length - (intOf i).toNat)
 case atStart => exact ⟨0, Nat.zero_le _, rfl, Ext.refl w, fun _ _ h => by omega⟩
 case round =>
  obtain ⟨k, hk, rfl, hext, Hall⟩ := hrel
  have HX := q_ hext
  clear hext
  by_cases hlt : k < l.length
  ·obtain ⟨b, o, rfl, hSb, hrow⟩ := HL.out (by omega)
   obtain ⟨x, hx⟩ : ∃ x, l[k]? = some x := ⟨_, List.getElem?_eq_getElem hlt⟩
   obtain ⟨cs, hca, hat⟩ := hrow k x hx
   rw [HZ.out] at hca
   have Hcl := q_ ((R.len hat).trans HZ.out)
   have Hca := q_ (hca.alike hSb (Alike.of_ext HX.out HS.out))
   have Hx := q_ hx
   have hgen := HC.out x (List.mem_of_getElem? hx) cs wr HX.out (R.alike hat (Alike.of_ext HX.out HS.out))
   generalize hpx : p x = px at *
   have HP := q_ hpx
   have HG := q_ hgen
   clear hx hca hrow hSb hpx hgen hat
   go_wp2_with (first | refine zac rfl 39 _ rfl b (o + k * 3) rfl Tryz.aggRT zcw Hcl.out Hca.out ?_)
   refine HG.out.mono ?_
   rintro e w' ⟨rfl, hx2⟩
   have HX2 := q_ hx2
   clear hx2
   cases px
   ·go_wp2_with fail
    go_roundw
    case rel => exact ⟨k + 1, by omega, by go_num, HX.out.trans HX2.out, fun i y hi hy => by
     by_cases hik : i = k
     ·subst hik; rw [Hx.out] at hy; cases hy; exact HP.out
     ·exact Hall.out i y (by omega) hy⟩
    case measure => simp [intOf]; omega
   ·go_wp2_with fail
    go_ret
    exact ⟨zag (by rw [zbl Hx.out HP.out Hall.out]; rfl), HX.out.trans HX2.out⟩
  ·go_wp2_with fail
   go_ret
   have hke : k = l.length := by omega
   subst hke
   exact ⟨zag (by rw [zby Hall.out]; rfl), HX.out⟩
theorem zeh : ∀ w, (isAgg 41).run Tryz.prog w = .ok true w := fun _ => by kernel_rfl
theorem zcg : ∀ w, (Go.sizeOf 41).run Tryz.prog w = .ok 5 w := fun _ => by kernel_rfl
theorem indexFuncRC {α : Type} (R : Rep α) (hz : R.size = 5) (g : Nat) (cb : Array Value) (p : α → Bool) (S : Nat → Prop) (l : List α) (v : Value) (w : World) (eg : ∀ args w, (callFunc g args).run Tryz.prog w = .ok (.enter g args) w)
  (hS : ∀ b, S b → b < w.heap.size) (hl : R.RowsAt S w l v)
  (hc : ∀ x ∈ l, ∀ (cs : List Value) (w1 : World), Ext w w1 → R.At S w1 x cs → Calls Tryz.prog g (#[.agg cs.toArray] ++ cb) w1 fun e w' => e = .returned (.bool (p x)) ∧ Ext w1 w') :
  Calls Tryz.prog 71 #[v, .func (.func g) #[] cb] w fun e w' => e = .returned (.int .i64 (pos (fidx p l))) ∧ Ext w w' := by
 obtain ⟨A, cap, rfl, ⟨hl0, hl1, hl2⟩, hlr⟩ := hl
 rw [zak] at hl0
 rw [zab] at hl2
 have HL := q_ hlr
 have HS := q_ hS
 have HC := q_ hc
 have HZ := q_ hz
 clear hlr hS hc hz
 go_enter Tryz.func71, Tryz.ntmps71
 go_wp2_with fail
 go_loopw [8] (fun i wr => ∃ k : Nat, k ≤ l.length ∧ i = .int .i64 k ∧ Ext w wr ∧ Hid (∀ i x, i < k → l[i]? = some x → p x = false)) (fun i _ => l.length - (intOf i).toNat)
 case atStart => exact ⟨0, Nat.zero_le _, rfl, Ext.refl w, fun _ _ h => by omega⟩
 case round =>
  obtain ⟨k, hk, rfl, hext, Hall⟩ := hrel
  have HX := q_ hext
  clear hext
  by_cases hlt : k < l.length
  ·obtain ⟨b, o, rfl, hSb, hrow⟩ := HL.out (by omega)
   obtain ⟨x, hx⟩ : ∃ x, l[k]? = some x := ⟨_, List.getElem?_eq_getElem hlt⟩
   obtain ⟨cs, hca, hat⟩ := hrow k x hx
   rw [HZ.out] at hca
   have Hcl := q_ ((R.len hat).trans HZ.out)
   have Hca := q_ (hca.alike hSb (Alike.of_ext HX.out HS.out))
   have Hx := q_ hx
   have hgen := HC.out x (List.mem_of_getElem? hx) cs wr HX.out (R.alike hat (Alike.of_ext HX.out HS.out))
   generalize hpx : p x = px at *
   have HP := q_ hpx
   have HG := q_ hgen
   clear hx hca hrow hSb hpx hgen hat
   go_wp2_with (first | refine zac rfl 41 _ rfl b (o + k * 5) rfl zeh zcg Hcl.out Hca.out ?_)
   refine HG.out.mono ?_
   rintro e w' ⟨rfl, hx2⟩
   have HX2 := q_ hx2
   clear hx2
   cases px
   ·go_wp2_with fail
    go_roundw
    case rel => exact ⟨k + 1, by omega, by go_num, HX.out.trans HX2.out, fun i y hi hy => by
     by_cases hik : i = k
     ·subst hik; rw [Hx.out] at hy; cases hy; exact HP.out
     ·exact Hall.out i y (by omega) hy⟩
    case measure => simp [intOf]; omega
   ·go_wp2_with fail
    go_ret
    exact ⟨zag (by rw [zbl Hx.out HP.out Hall.out]; rfl), HX.out.trans HX2.out⟩
  ·go_wp2_with fail
   go_ret
   have hke : k = l.length := by omega
   subst hke
   exact ⟨zag (by rw [zby Hall.out]; rfl), HX.out⟩
end Go.Proofs.YtbkaffhbhimglaaGreat

/-
  Searches by name: in a row of names, of attributes. The conditions: the rows lie in memory as they should.
-/
namespace Go.Proofs.YtbkaffhbhimglaaGreat
open Go.RowKit
open Lib renaming hid → q_
set_option maxRecDepth 100000
set_option maxHeartbeats 800000
theorem zdy (S : Nat → Prop) (l : List ByteArray) (v : Value) (s : ByteArray) (w : World) (hl : strR.RowsAt S w l v) :
  Calls Tryz.prog 30 #[v, .string s] w fun e w' => e = .returned (.bool (l.any fun x => s.toList == x.toList)) ∧ w = w' := by
 have hi := indexStrs_ok S l v s w (zds hl)
 obtain ⟨A, cap, rfl, _⟩ := hl
 rw [← zch]
 cases hf : fidx (fun x : ByteArray => s.toList == x.toList) l with
 | none =>
  rw [hf] at hi
  have HI := q_ hi
  clear hi hf
  go_enter Tryz.func30, Tryz.ntmps30
  go_wp2_with (go_at_call 60; refine HI.out.mono ?_; rintro e w' ⟨rfl, rfl⟩)
  go_ret
  exact ⟨rfl, rfl⟩
 | some i =>
  rw [hf] at hi
  have HI := q_ hi
  clear hi hf
  go_enter Tryz.func30, Tryz.ntmps30
  go_wp2_with (go_at_call 60; refine HI.out.mono ?_; rintro e w' ⟨rfl, rfl⟩)
  go_ret
  exact ⟨zal (by simp [pos]), rfl⟩
theorem Tryz.enterTA : ∀ args w, (callFunc 88 args).run Tryz.prog w = .ok (.enter 88 args) w := fun _ _ => by kernel_rfl
theorem attr1_ok (a : Atr) (nm : ByteArray) (S : Nat → Prop) (w : World) (cs : List Value) (g : Nat) (h : Atr.At S w a cs) (hg : OneBox w g (.string nm) 9) :
  Calls Tryz.prog 88 (#[.agg cs.toArray] ++ #[.pointer (some ⟨g, 0, none⟩)]) w fun e w' => e = .returned (.bool (a.name.toList == nm.toList)) ∧ Ext w w' := by
 obtain ⟨A, la, ca, B, lb, cb, rfl, _⟩ := h.shape
 have c0 := (hg.block (Below.heap_alloc w (.cells #[.string a.name, .int .i64 a.ty.kind, .string a.ty.name, .slice A la ca, .slice B lb cb, .bool a.opt] 85) g (zad hg))).cell
 clear hg h
 show Calls Tryz.prog 88 #[.agg #[.string a.name, .int .i64 a.ty.kind, .string a.ty.name, .slice A la ca, .slice B lb cb, .bool a.opt], .pointer (some ⟨g, 0, none⟩)] w _
 go_enter Tryz.func88, Tryz.ntmps88
 go_wp2_with fail
 go_ret
 exact ⟨rfl, (Ext.refl w).alloc _⟩
theorem heapT2 (w : World) (o0 o1 : Obj) : ((w.alloc o0).alloc o1).heap[w.heap.size]? = some o0 ∧ ((w.alloc o0).alloc o1).heap[w.heap.size + 1]? = some o1 ∧ ((w.alloc o0).alloc o1).heap.size = w.heap.size + 2 ∧ Ext w ((w.alloc o0).alloc o1) := by
 refine ⟨?_, ?_, by simp, ((Ext.refl w).alloc _).alloc _⟩ <;> (simp only [World.alloc, Array.getElem?_push, Array.size_push]; (repeat rw [if_neg (by omega)]); simp)
def zeroAtr : List Value := [.string ByteArray.empty, .int .i64 0, .string ByteArray.empty, .slice none 0 0, .slice none 0 0, .bool false]
theorem zeroAtr_one : ∀ v ∈ zeroAtr, v.oneCell' = true := by decide
abbrev zcd (l : List Atr) (nm : ByteArray) : Option Nat := fidx (fun a : Atr => a.name.toList == nm.toList) l
def AtrAns (S : Nat → Prop) (l : List Atr) (nm : ByteArray) (w : World) (e : Ending) (w' : World) : Prop := ∃ cs : List Value, e = .returned (.tuple #[.agg cs.toArray, .bool (zcd l nm).isSome]) ∧
 ((zcd l nm = none ∧ cs = zeroAtr) ∨ ∃ i a, zcd l nm = some i ∧ l[i]? = some a ∧ Atr.At S w' a cs) ∧ Ext w w'
theorem attr_ok (S : Nat → Prop) (l : List Atr) (v : Value) (nm : ByteArray) (w : World) (hS : ∀ b, S b → b < w.heap.size) (hl : atrR.RowsAt S w l v) :
  Calls Tryz.prog 62 #[v, .string nm] w (AtrAns S l nm w) := by
 have HL := q_ hl
 obtain ⟨A, cap, rfl, ⟨hl0, hl1, hl2⟩, hlr⟩ := hl
 rw [zak] at hl0
 rw [zab] at hl2
 have HR := q_ hlr
 have HS := q_ hS
 have HD : Hid (∀ e w', AtrAns S l nm w e w' ↔ ∃ cs : List Value, e = .returned (.tuple #[.agg cs.toArray, .bool (zcd l nm).isSome]) ∧ ((zcd l nm = none ∧ cs = zeroAtr) ∨ ∃ i a, zcd l nm = some i ∧ l[i]? = some a ∧ Atr.At S w' a cs) ∧ Ext w w') := q_ fun _ _ => Iff.rfl
 clear hlr hS
 go_enter Tryz.func62, Tryz.ntmps62
 go_wp2_with fail
 obtain ⟨hb0, hb1, hsz, hx⟩ := heapT2 w (.cells #[.string nm] 9) (.cells zeroAtr.toArray 85)
 rw [show (#[Value.string ⟨#[]⟩, .int .i64 0, .string ⟨#[]⟩, .slice none 0 0, .slice none 0 0, .bool false] : Array Value) = zeroAtr.toArray from rfl]
 generalize (w.alloc (.cells #[.string nm] 9)).alloc (.cells zeroAtr.toArray 85) = W at hb0 hb1 hsz hx ⊢
 have HX := q_ hx
 have HLW := q_ (HL.out.alike (Alike.of_ext hx HS.out))
 have HB1 := q_ hb1
 have hsW : ∀ b, S b → b < W.heap.size := fun b hb => Nat.lt_of_lt_of_le (HS.out b hb) hx.size
 have hK := indexFuncRA atrR rfl 88 #[.pointer (some ⟨w.heap.size, 0, none⟩)] (fun a : Atr => a.name.toList == nm.toList) S l _ W Tryz.enterTA hsW HLW.out (fun a _ cs w1 hw1 ha => attr1_ok a nm S w1 cs w.heap.size ha ((hw1.block _ (zad hb0)).trans hb0))
 have HK := q_ hK
 clear hb0 hb1 hsz hx hK
 refine HK.out.mono ?_
 rintro e w2 ⟨rfl, hx2⟩
 have HX2 := q_ (HX.out.trans hx2)
 have HB2 := q_ ((hx2.block _ (zad HB1.out)).trans HB1.out)
 have HL2 := q_ (HLW.out.alike (Alike.of_ext hx2 hsW))
 clear hx2 hsW HK HLW HX HB1 HL
 obtain ⟨ix, hix⟩ : ∃ ix, zcd l nm = ix := ⟨_, rfl⟩
 unfold zcd at hix
 rw [hix]
 have HI := q_ hix
 clear hix
 cases ix with
 | none =>
  simp only [pos]
  go_wp2_with (refine zah rfl 85 _ _ rfl (w.heap.size + 1) 0 rfl zeroAtr rfl zcy rfl 85 zeroAtr.toArray HB2.out (by simp [zeroAtr]) zeroAtr_one ?_)
  refine bodyPost_ret (v := .tuple #[.agg zeroAtr.toArray, .bool false]) (zaj Tryz.results62 rfl Tryz.aggRA zcy rfl (zao HB2.out (by simp [zeroAtr]))) rfl ((HD.out _ _).2 ⟨zeroAtr, ?_, .inl ⟨HI.out, rfl⟩, HX2.out.setRow (by omega) _⟩)
  rw [show zcd l nm = none from HI.out]; rfl
 | some i =>
  obtain ⟨a, hia, hp⟩ := zew HI.out
  have hil := (List.getElem?_eq_some_iff.1 hia).1
  obtain ⟨A', cap', e, _, hrow⟩ := HL2.out
  obtain ⟨b, o, rfl, hSb, hrow⟩ := hrow (by omega)
  injection e with e1 e2 e3
  subst e1
  obtain ⟨cs, hca, hat⟩ := hrow i a hia
  have hca : CellsAt w2 b (o + i * 6) cs := hca
  obtain ⟨Aa, la, ca, Ba, lb, cb, rfl, _⟩ := Atr.At.shape hat
  have Hca := q_ hca
  have Hat := q_ hat
  have Hia := q_ hia
  clear hca hat hia hrow hSb hp e2 e3 HL2
  simp only [pos]
  go_wp2_with (first | refine zac rfl 85 _ rfl b (o + i * 6) rfl Tryz.aggRA zcy rfl Hca.out ?_ | refine zah rfl 85 _ _ rfl (w.heap.size + 1) 0 rfl [.string a.name, .int .i64 a.ty.kind, .string a.ty.name, .slice Aa la ca, .slice Ba lb cb, .bool a.opt] rfl zcy rfl 85 zeroAtr.toArray HB2.out (by simp [zeroAtr]) (Atr.At.one Hat.out) ?_)
  refine bodyPost_ret (v := .tuple #[.agg [.string a.name, .int .i64 a.ty.kind, .string a.ty.name, .slice Aa la ca, .slice Ba lb cb, .bool a.opt].toArray, .bool true]) (zaj Tryz.results62 rfl Tryz.aggRA zcy rfl (zao HB2.out (by simp [zeroAtr]))) rfl ((HD.out _ _).2 ⟨[.string a.name, .int .i64 a.ty.kind, .string a.ty.name, .slice Aa la ca, .slice Ba lb cb, .bool a.opt], ?_, .inr ⟨i, a, HI.out, Hia.out, ?_⟩, HX2.out.setRow (by omega) _⟩)
  ·rw [show zcd l nm = some i from HI.out]; rfl
  ·exact Atr.At.alike (fun b' hb => (GrownBy.setRow w2 (w.heap.size + 1) _).block b' (Nat.lt_of_lt_of_le (HS.out b' hb) HX2.out.size) (fun e => by injection e with e; have := HS.out b' hb; omega)) _ _ Hat.out
end Go.Proofs.YtbkaffhbhimglaaGreat

/-
  Whether a value is of a type: what the program's own answer is. The conditions: the value is as it must be, both lie in memory as they should.
-/
namespace Go.Proofs.YtbkaffhbhimglaaGreat
open Go.RowKit
open Lib renaming hid → q_
set_option maxRecDepth 100000
set_option maxHeartbeats 4000000
theorem zdf (a b : ByteArray) : (a.toList == b.toList) = decide (a = b) := by
 rw [Bool.eq_iff_iff, beq_iff_eq, decide_eq_true_eq]
 exact ⟨zbs, fun h => by rw [h]⟩
theorem zdk (a b : ByteArray) : (a.toList == b.toList) = decide (b = a) := by
 rw [Bool.eq_iff_iff, beq_iff_eq, decide_eq_true_eq]
 exact ⟨fun h => (zbs h).symm, fun h => by rw [h]⟩
def recB (l : List Atr) (items : List Val) (names : List ByteArray) : Bool := (names.zip items).all (fun p => Atr.takes l p.1 p.2) && l.all fun a => a.opt || names.any fun n => decide (n = a.name)
theorem takes_idx (n : ByteArray) (x : Val) : ∀ l : List Atr, Atr.takes l n x = match zcd l n with | none => false | some i => match l[i]? with | none => false | some a => a.ty.takes x
 | [] => by simp [Atr.takes, zcd, fidx]
 | a :: r => by
  unfold Atr.takes
  have ih := takes_idx n x r
  by_cases h : a.name = n
  ·have h1 : (a.name.toList == n.toList) = true := by rw [zdf]; exact decide_eq_true h
   simp only [zcd, fidx, h1, if_pos h]
   cases a; rfl
  ·have h1 : (a.name.toList == n.toList) = false := by rw [zdf]; exact decide_eq_false h
   rw [if_neg h, ih]
   simp only [zcd, fidx, h1, Bool.false_eq_true, if_false]
   cases fidx (fun a : Atr => a.name.toList == n.toList) r <;> simp
theorem takes_none {n : ByteArray} {x : Val} {l : List Atr} (h : zcd l n = none) : Atr.takes l n x = false := by rw [takes_idx, h]
theorem takes_some {n : ByteArray} {x : Val} {l : List Atr} {i : Nat} {a : Atr} (h : zcd l n = some i) (ha : l[i]? = some a) : Atr.takes l n x = a.ty.takes x := by rw [takes_idx, h]; simp [ha]
theorem zip_all {l : List Atr} {items : List Val} {names : List ByteArray} (h : ∀ i n x, i < names.length → names[i]? = some n → items[i]? = some x → Atr.takes l n x = true) : (names.zip items).all (fun p => Atr.takes l p.1 p.2) = true := by
 rw [List.all_eq_true]
 intro p hp
 obtain ⟨i, hi⟩ := List.mem_iff_getElem?.1 hp
 obtain ⟨n, x⟩ := p
 rw [List.getElem?_zip_eq_some] at hi
 exact h i n x (List.getElem?_eq_some_iff.1 hi.1).1 hi.1 hi.2
theorem zip_not {l : List Atr} {items : List Val} {names : List ByteArray} {i : Nat} {n : ByteArray} {x : Val} (hn : names[i]? = some n) (hx : items[i]? = some x) (h : Atr.takes l n x = false) : (names.zip items).all (fun p => Atr.takes l p.1 p.2) = false := by
 rw [Bool.eq_false_iff]
 intro ht
 rw [List.all_eq_true] at ht
 have := ht (n, x) (List.mem_iff_getElem?.2 ⟨i, List.getElem?_zip_eq_some.2 ⟨hn, hx⟩⟩)
 rw [h] at this
 cases this
def missB (names : List ByteArray) (a : Atr) : Bool := !a.opt && !(names.any fun x => a.name.toList == x.toList)
theorem miss_any (l : List Atr) (names : List ByteArray) : (!(l.any (missB names))) = l.all fun a => a.opt || names.any fun n => decide (n = a.name) := by
 rw [Bool.eq_iff_iff, Bool.not_eq_true', List.any_eq_false, List.all_eq_true]
 refine forall_congr' fun a => forall_congr' fun _ => ?_
 unfold missB
 rw [show (fun x : ByteArray => a.name.toList == x.toList) = fun n => decide (n = a.name) from funext fun x => zdk _ _]
 cases a.opt <;> cases names.any fun n => decide (n = a.name) <;> simp
theorem Tryz.enterRM : ∀ args w, (callFunc 63 args).run Tryz.prog w = .ok (.enter 63 args) w := fun _ _ => by kernel_rfl
theorem Tryz.enterCV : ∀ args w, (callFunc 38 args).run Tryz.prog w = .ok (.enter 38 args) w := fun _ _ => by kernel_rfl
theorem miss1_ok (names : List ByteArray) (a : Atr) (S : Nat → Prop) (w : World) (cs : List Value) (g : Nat) (u0 u1 u2 u3 u4 u5 u6 : Value) (nv : Value) (h : Atr.At S w a cs) (hn : strR.RowsAt S w names nv) (hS : ∀ b, S b → b < w.heap.size) (hg : w.heap[g]? = some (.cells #[u0, u1, u2, u3, u4, u5, u6, nv] 46 (0, 0))) :
  Calls Tryz.prog 63 (#[.agg cs.toArray] ++ #[.pointer (some ⟨g, 0, none⟩)]) w fun e w' => e = .returned (.bool (missB names a)) ∧ Ext w w' := by
 have hw := (Ext.refl w).alloc (.cells cs.toArray 85)
 obtain ⟨A, la, ca, B, lb, cb, rfl, _⟩ := h.shape
 have c0 : (w.alloc (.cells #[.string a.name, .int .i64 a.ty.kind, .string a.ty.name, .slice A la ca, .slice B lb cb, .bool a.opt] 85)).cell? ⟨g, 7, none⟩ = some nv := cell_of_row _ _ 7 _ _ _ ((hw.block g (zad hg)).trans hg)
 have HN := q_ (hn.alike (Alike.of_ext hw hS))
 obtain ⟨bb, hbb⟩ : ∃ bb, (names.any fun x => a.name.toList == x.toList) = bb := ⟨_, rfl⟩
 have hm : missB names a = (!a.opt && !bb) := by unfold missB; rw [hbb]
 rw [hm]
 have HB := q_ hbb
 obtain ⟨An, ln, cn, rfl⟩ : ∃ A l c, nv = .slice A l c := by obtain ⟨A, c, rfl, _⟩ := hn; exact ⟨_, _, _, rfl⟩
 have HX := q_ hw
 clear hg h hn hS hbb hm hw
 show Calls Tryz.prog 63 #[.agg #[.string a.name, .int .i64 a.ty.kind, .string a.ty.name, .slice A la ca, .slice B lb cb, .bool a.opt], .pointer (some ⟨g, 0, none⟩)] w _
 cases ho : a.opt
 all_goals
  rw [ho] at c0 HN HX
  clear ho
  go_enter Tryz.func63, Tryz.ntmps63
  go_wp2_with (go_at_call 30; refine (zdy S names _ a.name _ HN.out).mono ?_; rintro e w' ⟨rfl, rfl⟩; rw [HB.out])
  go_ret
  exact ⟨rfl, HX.out⟩
abbrev TakesOf (l : List Val) : Prop := ∀ x ∈ l, ∀ (t : Ty) (S : Nat → Prop) (w : World) (cx ct : List Value), (∀ b, S b → b < w.heap.size) → Val.At S w x cx → Ty.At S w t ct →
 Calls Tryz.prog 13 #[.agg cx.toArray, .agg ct.toArray] w fun e w' => e = .returned (.bool (t.takes x)) ∧ Ext w w'
theorem record_okC (k : Int) (bo : Bool) (i : Int) (t ut ui : ByteArray) (items : List Val) (names : List ByteArray) (hle : names.length ≤ items.length) (l : List Atr) (S : Nat → Prop) (w : World) (cs : List Value) (rv : Value) (hS : ∀ b, S b → b < w.heap.size)
  (hv : Val.At S w (.mk k bo i t ut ui items names) cs) (hl : atrR.RowsAt S w l rv) (ih : TakesOf items) :
  Calls Tryz.prog 32 #[.agg cs.toArray, rv] w fun e w' => e = .returned (.bool (recB l items names)) ∧ Ext w w' := by
 obtain ⟨k1, b1, n1, t1, ut1, ui1, A1, l1, c1, A2, l2, c2, rfl⟩ := hv.shape
 have hst := hv.strs
 have hvs := hv.vals
 obtain ⟨A, cap, e, hn0, hn1, hn2, _, hnr⟩ := id hst
 injection e with e1 e2 e3
 subst e1 e2 e3
 obtain ⟨A, cap, e, ⟨hi0, hi1, hi2⟩, hir⟩ := hvs
 injection e with e1 e2 e3
 subst e1 e2 e3
 obtain ⟨A3, c3, rfl, ⟨hr0, hr1, hr2⟩, _⟩ := id hl
 rw [zak] at hn0 hi0 hr0
 rw [zab] at hn2 hi2 hr2
 have HS := q_ hS
 have HL := q_ hl
 have HNm := q_ (zdl hst)
 have HNr := q_ hnr
 have HIr := q_ hir
 have IH := q_ ih
 have HD : Hid (recB l items names = ((names.zip items).all (fun p => Atr.takes l p.1 p.2) && !(l.any (missB names)))) := q_ (by rw [miss_any]; rfl)
 generalize recB l items names = res at *
 clear hv hl hst hnr hir ih hS
 go_enter Tryz.func32, Tryz.ntmps32
 go_wp2_with fail
 go_loopw [13] (fun c' wr => ∃ j : Nat, j ≤ names.length ∧ c' = .int .i64 j ∧ Hid (Ext w wr) ∧ Hid (wr.heap[w.heap.size]? = some (.cells #[.int .i64 k1, .bool b1, .int .i64 n1, .string t1, .string ut1, .string ui1, .slice A1 items.length c1, .slice A2 names.length c2] 46 (0, 0))) ∧
  Hid (∀ i n x, i < j → names[i]? = some n → items[i]? = some x → Atr.takes l n x = true)) (fun c' _ => names.length - (intOf c').toNat)
 case atStart => exact ⟨0, Nat.zero_le _, rfl, q_ ((Ext.refl w).alloc _), q_ (heap_alloc_new _ _), q_ fun _ _ _ h => by omega⟩
 case round =>
  obtain ⟨j, hj, rfl, HX, HB, HA⟩ := hrel
  by_cases hlt : j < names.length
  ·obtain ⟨nb, no, rfl, hSn, hrow⟩ := HNr.out (by omega)
   obtain ⟨n, hn⟩ : ∃ n, names[j]? = some n := ⟨_, List.getElem?_eq_getElem hlt⟩
   have cn : wr.cell? ⟨nb, no + j, none⟩ = some (.string n) := (hrow.alike hSn (Alike.of_ext HX.out HS.out)) j _ (by simp [hn])
   obtain ⟨x, hx⟩ : ∃ x, items[j]? = some x := ⟨_, List.getElem?_eq_getElem (by omega)⟩
   obtain ⟨ib, io, rfl, hSi, hirow⟩ := HIr.out (by omega)
   obtain ⟨cx, _, hcx, hxa⟩ := hirow.get hx
   have HCx := q_ (hcx.alike hSi (Alike.of_ext HX.out HS.out))
   have HXa := q_ (hxa.alike (Alike.of_ext HX.out HS.out))
   obtain ⟨xk, xb, xn, xt, xut, xui, xA, xl, xc, xB, xm, xd, rfl⟩ := hxa.shape
   have Hn := q_ hn
   have Hx := q_ hx
   have HSr := q_ (show ∀ b, S b → b < wr.heap.size from fun b hb => Nat.lt_of_lt_of_le (HS.out b hb) HX.out.size)
   clear hn hx hrow hSn hirow hSi hcx hxa
   go_wp2_with fail
   refine (attr_ok S l _ n wr HSr.out (HL.out.alike (Alike.of_ext HX.out HS.out))).mono ?_
   rintro e w2 ⟨ca, rfl, hca, hx2⟩
   have HX2 := q_ (HX.out.trans hx2)
   have HX2' := q_ hx2
   rcases hca with ⟨hno, rfl⟩ | ⟨ia, a, hia, ha, hat⟩
   ·rw [hno]
    have HNo := q_ hno
    rw [show zeroAtr = [.string ByteArray.empty, .int .i64 0, .string ByteArray.empty, .slice none 0 0, .slice none 0 0, .bool false] from rfl]
    clear hno hx2 cn
    simp only [Option.isSome]
    go_wp2_with fail
    refine zae (by kernel_rfl) (by kernel_rfl) ?_
    iterate 13 (go_big_quiet_step (fail))
    refine wpQuiet_nil ?_
    intro w4 hw4
    have HX4 := q_ ((HX2.out.alloc _).trans hw4)
    clear hw4
    go_wp2_with fail
    go_ret
    exact ⟨zal (by rw [HD.out, zip_not Hn.out Hx.out (takes_none HNo.out)]; rfl), HX4.out⟩
   ·rw [hia]
    have HIa := q_ hia
    have Ha := q_ ha
    obtain ⟨Aa, la, ca, Ba, lb, cb, rfl, _, hta⟩ := hat.shape
    simp only [Option.isSome]
    obtain ⟨W, hW⟩ : ∃ W, W = w2.alloc (.cells #[.string a.name, .int .i64 a.ty.kind, .string a.ty.name, .slice Aa la ca, .slice Ba lb cb, .bool a.opt] 85) := ⟨_, rfl⟩
    have hxW : Ext w2 W := by rw [hW]; exact (Ext.refl w2).alloc _
    have hnew : W.heap[w2.heap.size]? = some (.cells #[.string a.name, .int .i64 a.ty.kind, .string a.ty.name, .slice Aa la ca, .slice Ba lb cb, .bool a.opt] 85 (0, 0)) := by rw [hW]; exact heap_alloc_new _ _
    have HSW := q_ (show ∀ b, S b → b < W.heap.size from fun b hb => Nat.lt_of_lt_of_le (HSr.out b hb) (hx2.trans hxW).size)
    have hal : Alike S wr W := Alike.of_ext (hx2.trans hxW) HSr.out
    have hxaW := HXa.out.alike hal
    have htaW := Ty.At.alike (Alike.of_ext hxW fun b hb => Nat.lt_of_lt_of_le (HSr.out b hb) hx2.size) _ _ hta
    obtain ⟨tb, htb⟩ : ∃ tb, a.ty.takes x = tb := ⟨_, rfl⟩
    have HTb : Hid (Atr.takes l n x = tb) := q_ (by rw [takes_some HIa.out Ha.out]; exact htb)
    have KV : Hid (∀ X, Ext W X → Calls Tryz.prog 13 #[.agg #[.int .i64 xk, .bool xb, .int .i64 xn, .string xt, .string xut, .string xui, .slice xA xl xc, .slice xB xm xd], .agg #[.int .i64 a.ty.kind, .string a.ty.name, .slice Aa la ca, .slice Ba lb cb]] X fun e w' => e = .returned (.bool tb) ∧ Ext X w') := q_ fun X hX => by
     have h := IH.out x (List.mem_of_getElem? Hx.out) a.ty S X _ _ (fun b hb => Nat.lt_of_lt_of_le (HSW.out b hb) hX.size) (hxaW.alike (Alike.of_ext hX HSW.out)) (Ty.At.alike (Alike.of_ext hX HSW.out) _ _ htaW)
     rw [htb] at h
     exact h
    have hB := (hxW.block _ (Nat.lt_of_lt_of_le (zad HB.out) hx2.size)).trans ((hx2.block _ (zad HB.out)).trans HB.out)
    have g0 := zaa (show W.cell? ⟨w.heap.size, 6, none⟩ = some (.slice (some ⟨ib, io, none⟩) items.length c1) from cell_of_row _ _ 6 _ _ _ hB)
    have hcW := HCx.out.alike (S := fun b => b < wr.heap.size) (block_lt_of_cell (HCx.out 0 _ rfl)) (Alike.of_ext (hx2.trans hxW) fun b hb => hb)
    have i0 := zaa (show W.cell? ⟨ib, io + j * 8, none⟩ = some (.int .i64 xk) from hcW 0 _ rfl)
    have i1 := zaa (show W.cell? ⟨ib, io + j * 8 + 1, none⟩ = some (.bool xb) from hcW 1 _ rfl)
    have i2 := zaa (show W.cell? ⟨ib, io + j * 8 + 2, none⟩ = some (.int .i64 xn) from hcW 2 _ rfl)
    have i3 := zaa (show W.cell? ⟨ib, io + j * 8 + 3, none⟩ = some (.string xt) from hcW 3 _ rfl)
    have i4 := zaa (show W.cell? ⟨ib, io + j * 8 + 4, none⟩ = some (.string xut) from hcW 4 _ rfl)
    have i5 := zaa (show W.cell? ⟨ib, io + j * 8 + 5, none⟩ = some (.string xui) from hcW 5 _ rfl)
    have i6 := zaa (show W.cell? ⟨ib, io + j * 8 + 6, none⟩ = some (.slice xA xl xc) from hcW 6 _ rfl)
    have i7 := zaa (show W.cell? ⟨ib, io + j * 8 + 7, none⟩ = some (.slice xB xm xd) from hcW 7 _ rfl)
    have a1 := zaa (show W.cell? ⟨w2.heap.size, 1, none⟩ = some (.int .i64 a.ty.kind) from cell_of_row _ _ 1 _ _ _ hnew)
    have a2 := zaa (show W.cell? ⟨w2.heap.size, 2, none⟩ = some (.string a.ty.name) from cell_of_row _ _ 2 _ _ _ hnew)
    have a3 := zaa (show W.cell? ⟨w2.heap.size, 3, none⟩ = some (.slice Aa la ca) from cell_of_row _ _ 3 _ _ _ hnew)
    have a4 := zaa (show W.cell? ⟨w2.heap.size, 4, none⟩ = some (.slice Ba lb cb) from cell_of_row _ _ 4 _ _ _ hnew)
    have a1' := zaa (show W.cell? ⟨w2.heap.size, 1 + 1, none⟩ = some (.string a.ty.name) from cell_of_row _ _ 2 _ _ _ hnew)
    have a2' := zaa (show W.cell? ⟨w2.heap.size, 1 + 2, none⟩ = some (.slice Aa la ca) from cell_of_row _ _ 3 _ _ _ hnew)
    have a3' := zaa (show W.cell? ⟨w2.heap.size, 1 + 3, none⟩ = some (.slice Ba lb cb) from cell_of_row _ _ 4 _ _ _ hnew)
    have hBx := q_ hB
    have HXW := q_ (HX2.out.trans hxW)
    clear hia ha hat hta hxW hnew hal hxaW htaW htb hB hcW hx2 cn HSW
    subst hW
    go_wp2_with fail
    refine zae (by kernel_rfl) (by kernel_rfl) ?_
    iterate 10 (go_big_quiet_step (fail))
    go_big_quiet_step ((go_at_call 13; exact zan KV.out _ _))
    iterate 2 (go_big_quiet_step (fail))
    refine wpQuiet_nil ?_
    intro w4 hw4
    have HX4 := q_ (HXW.out.trans hw4)
    have HB4 := q_ ((hw4.block _ (zad hBx.out)).trans hBx.out)
    clear hw4 g0 i0 i1 i2 i3 i4 i5 i6 i7 a1 a2 a3 a4 a1' a2' a3'
    cases tb
    ·go_wp2_with fail
     go_ret
     exact ⟨zal (by rw [HD.out, zip_not Hn.out Hx.out HTb.out]; rfl), HX4.out⟩
    ·go_wp2_with fail
     go_roundw
     case rel => exact ⟨j + 1, by omega, by go_num, HX4, HB4, q_ fun i n' x' hi hn' hx' => by
      by_cases hij : i = j
      ·subst hij
       rw [Hn.out] at hn'; cases hn'
       rw [Hx.out] at hx'; cases hx'
       exact HTb.out
      ·exact HA.out i n' x' (by omega) hn' hx'⟩
     case measure => simp [intOf]; omega
  ·have hje : j = names.length := by omega
   subst hje
   have HZ := q_ (zip_all HA.out)
   have HSr := q_ (show ∀ b, S b → b < wr.heap.size from fun b hb => Nat.lt_of_lt_of_le (HS.out b hb) HX.out.size)
   obtain ⟨mb, hmb⟩ : ∃ mb, l.any (missB names) = mb := ⟨_, rfl⟩
   have HM := q_ hmb
   clear HA hmb
   go_wp2_with fail
   refine (containsFuncRA atrR rfl 63 #[.pointer (some ⟨w.heap.size, 0, none⟩)] (missB names) S l _ wr Tryz.enterRM HSr.out (HL.out.alike (Alike.of_ext HX.out HS.out)) (fun a _ ca w1 hw1 ha => miss1_ok names a S w1 ca w.heap.size _ _ _ _ _ _ _ _ ha (HNm.out.alike (Alike.of_ext (HX.out.trans hw1) HS.out)) (fun b hb => Nat.lt_of_lt_of_le (HSr.out b hb) hw1.size) ((hw1.block _ (zad HB.out)).trans HB.out))).mono ?_
   rintro e w3 ⟨rfl, hx3⟩
   rw [HM.out]
   have HX3 := q_ (HX.out.trans hx3)
   clear hx3
   go_wp2_with fail
   go_ret
   exact ⟨zal (by rw [HD.out, HZ.out, HM.out]; rfl), HX3.out⟩
end Go.Proofs.YtbkaffhbhimglaaGreat

/-
  Whether a value is of a type: the program's Value, by recursion. The conditions: the value is as it must be, both lie in memory as they should.
-/
namespace Go.Proofs.YtbkaffhbhimglaaGreat
open Go.RowKit
open Lib renaming hid → q_
set_option maxRecDepth 100000
set_option maxHeartbeats 8000000
theorem takesOne_not {elem : List Ty} {x : Val} (h : elem.length ≠ 1) : Ty.takesOne elem x = false := by
 match elem with
 | [] => rfl
 | [_] => simp at h
 | _ :: _ :: _ => rfl
theorem wrong1_ok (x : Val) (elem : List Ty) (S : Nat → Prop) (w : World) (cx : List Value) (g : Nat) (u0 u1 u3 ve : Value) (hS : ∀ b, S b → b < w.heap.size) (hx : Val.At S w x cx) (he : tyR.RowsAt S w elem ve)
  (hg : w.heap[g]? = some (.cells #[u0, u1, ve, u3] 53 (0, 0))) (ih : TakesOf [x]) :
  Calls Tryz.prog 38 (#[.agg cx.toArray] ++ #[.pointer (some ⟨g, 0, none⟩)]) w fun e w' => e = .returned (.bool (!(Ty.takesOne elem x))) ∧ Ext w w' := by
 obtain ⟨xk, xb, xn, xt, xut, xui, xA, xl, xc, xB, xm, xd, rfl⟩ := hx.shape
 obtain ⟨A, cap, rfl, ⟨h0, h1, h2⟩, hrow⟩ := he
 rw [zak] at h0
 rw [zab] at h2
 obtain ⟨W, hW⟩ : ∃ W, W = w.alloc (.cells #[.int .i64 xk, .bool xb, .int .i64 xn, .string xt, .string xut, .string xui, .slice xA xl xc, .slice xB xm xd] 46) := ⟨_, rfl⟩
 have hxW : Ext w W := by rw [hW]; exact (Ext.refl w).alloc _
 have hnew : W.heap[w.heap.size]? = some (.cells #[.int .i64 xk, .bool xb, .int .i64 xn, .string xt, .string xut, .string xui, .slice xA xl xc, .slice xB xm xd] 46 (0, 0)) := by rw [hW]; exact heap_alloc_new _ _
 have gt := zaa (show W.cell? ⟨g, 2, none⟩ = some (.slice A elem.length cap) from cell_of_row _ _ 2 _ _ _ ((hxW.block _ (zad hg)).trans hg))
 have i0 := zaa (show W.cell? ⟨w.heap.size, 0, none⟩ = some (.int .i64 xk) from cell_of_row _ _ 0 _ _ _ hnew)
 have i1 := zaa (show W.cell? ⟨w.heap.size, 1, none⟩ = some (.bool xb) from cell_of_row _ _ 1 _ _ _ hnew)
 have i2 := zaa (show W.cell? ⟨w.heap.size, 2, none⟩ = some (.int .i64 xn) from cell_of_row _ _ 2 _ _ _ hnew)
 have i3 := zaa (show W.cell? ⟨w.heap.size, 3, none⟩ = some (.string xt) from cell_of_row _ _ 3 _ _ _ hnew)
 have i4 := zaa (show W.cell? ⟨w.heap.size, 4, none⟩ = some (.string xut) from cell_of_row _ _ 4 _ _ _ hnew)
 have i5 := zaa (show W.cell? ⟨w.heap.size, 5, none⟩ = some (.string xui) from cell_of_row _ _ 5 _ _ _ hnew)
 have i6 := zaa (show W.cell? ⟨w.heap.size, 6, none⟩ = some (.slice xA xl xc) from cell_of_row _ _ 6 _ _ _ hnew)
 have i7 := zaa (show W.cell? ⟨w.heap.size, 7, none⟩ = some (.slice xB xm xd) from cell_of_row _ _ 7 _ _ _ hnew)
 by_cases hl : elem.length = 1
 ·match elem, hl with
  | [t], _ =>
   obtain ⟨b, o, rfl, hSb, hrow⟩ := hrow (by simp)
   obtain ⟨ct, hct, hta⟩ := hrow 0 t rfl
   obtain ⟨tA, ta, tB, tb, rfl, _⟩ := Ty.At.parts hta
   have hct : CellsAt w b o [.int .i64 t.kind, .string t.name, .slice tA t.elem.length ta, .slice tB t.attrs.length tb] := by simpa [tyR] using hct
   have hctW := hct.alike hSb (Alike.of_ext hxW hS)
   obtain ⟨rb, hrb⟩ : ∃ rb, t.takes x = rb := ⟨_, rfl⟩
   have hres : Ty.takesOne [t] x = rb := by rw [← hrb]; unfold Ty.takesOne; rfl
   rw [hres]
   have KV : Hid (∀ X, Ext W X → Calls Tryz.prog 13 #[.agg #[.int .i64 xk, .bool xb, .int .i64 xn, .string xt, .string xut, .string xui, .slice xA xl xc, .slice xB xm xd], .agg #[.int .i64 t.kind, .string t.name, .slice tA t.elem.length ta, .slice tB t.attrs.length tb]] X fun e w' => e = .returned (.bool rb) ∧ Ext X w') := q_ fun X hX => by
    have hal := Alike.of_ext (hxW.trans hX) hS
    have h := ih x (by simp) t S X _ _ (fun b hb => Nat.lt_of_lt_of_le (hS b hb) (hxW.trans hX).size) (hx.alike hal) (Ty.At.alike hal _ _ hta)
    rw [hrb] at h
    exact h
   have t0 := zaa (show W.cell? ⟨b, o, none⟩ = some (.int .i64 t.kind) from hctW 0 _ rfl)
   have t1 := zaa (show W.cell? ⟨b, o + 1, none⟩ = some (.string t.name) from hctW 1 _ rfl)
   have t2 := zaa (show W.cell? ⟨b, o + 2, none⟩ = some (.slice tA t.elem.length ta) from hctW 2 _ rfl)
   have t3 := zaa (show W.cell? ⟨b, o + 3, none⟩ = some (.slice tB t.attrs.length tb) from hctW 3 _ rfl)
   have HXW := q_ hxW
   clear hrow hSb hct hta hctW hrb hres hxW hnew hg hx hS ih
   subst hW
   show Calls Tryz.prog 38 #[.agg #[.int .i64 xk, .bool xb, .int .i64 xn, .string xt, .string xut, .string xui, .slice xA xl xc, .slice xB xm xd], .pointer (some ⟨g, 0, none⟩)] w _
   go_enter Tryz.func38, Tryz.ntmps38
   go_wp2_with fail
   refine zae (by kernel_rfl) (by kernel_rfl) ?_
   iterate 10 (go_big_quiet_step (fail))
   go_big_quiet_step ((go_at_call 13; exact zan KV.out _ _))
   iterate 3 (go_big_quiet_step (fail))
   refine wpQuiet_nil ?_
   intro w4 hw4
   have HX4 := q_ (HXW.out.trans hw4)
   clear hw4 gt i0 i1 i2 i3 i4 i5 i6 i7 t0 t1 t2 t3
   go_wp2_with fail
   go_ret
   exact ⟨rfl, HX4.out⟩
 ·rw [takesOne_not hl]
  have e1 : ((elem.length : Int) != 1) = true := by simp; omega
  have HXW := q_ hxW
  clear hrow hxW hnew hg hx hS ih hl
  subst hW
  show Calls Tryz.prog 38 #[.agg #[.int .i64 xk, .bool xb, .int .i64 xn, .string xt, .string xut, .string xui, .slice xA xl xc, .slice xB xm xd], .pointer (some ⟨g, 0, none⟩)] w _
  go_enter Tryz.func38, Tryz.ntmps38
  go_wp2_with fail
  refine zae (by kernel_rfl) (by kernel_rfl) ?_
  iterate 14 (go_big_quiet_step (fail))
  refine wpQuiet_nil ?_
  intro w4 hw4
  have HX4 := q_ (HXW.out.trans hw4)
  clear hw4 gt i0 i1 i2 i3 i4 i5 i6 i7
  go_wp2_with fail
  go_ret
  exact ⟨rfl, HX4.out⟩
theorem not_any {α : Type} (l : List α) (p : α → Bool) : (!(l.any fun x => !p x)) = l.all p := by
 rw [Bool.eq_iff_iff, Bool.not_eq_true', List.any_eq_false, List.all_eq_true]
 simp
theorem takes_ok (n : Nat) : ∀ (v : Val), SizeOf.sizeOf v ≤ n → v.Is → TakesOf [v] := by
 induction n with
 | zero => intro v; cases v; simp
 | succ n ihn =>
  intro v hn his v' hv' t S w cv ct hS hv ht
  obtain rfl : v' = v := by simpa using hv'
  obtain ⟨vk, vb, vi, vt, vut, vui, items, names⟩ := v'
  obtain ⟨tk, tn, elem, attrs⟩ := t
  obtain ⟨k1, b1, n1, t1, ut1, ui1, A1, l1, c1, A2, l2, c2, rfl⟩ := hv.shape
  have hvs := hv.vals
  obtain ⟨rfl, rfl, rfl, rfl, rfl, rfl⟩ : k1 = vk ∧ b1 = vb ∧ n1 = vi ∧ t1 = vt ∧ ut1 = vut ∧ ui1 = vui := by
   unfold Val.At at hv; obtain ⟨_, _, _, e, _⟩ := hv; simp at e; exact ⟨e.1, e.2.1, e.2.2.1, e.2.2.2.1, e.2.2.2.2.1, e.2.2.2.2.2.1⟩
  obtain ⟨tA, ta, tB, tb, hct, _, hte, hta⟩ := Ty.At.parts ht
  obtain rfl : ct = [.int .i64 tk, .string tn, .slice tA elem.length ta, .slice tB attrs.length tb] := hct
  have hte : tyR.RowsAt S w elem (.slice tA elem.length ta) := hte
  have hta : atrR.RowsAt S w attrs (.slice tB attrs.length tb) := hta
  have ih : TakesOf items := fun x hx => by
   have hxi : x.Is := by
    unfold Val.Is at his
    rcases his with h | h | h | h | h | h
    ·rw [h.2.2.2.2.2.1] at hx; cases hx
    ·rw [h.2.2.2.2.2.1] at hx; cases hx
    ·rw [h.2.2.2.2.2.1] at hx; cases hx
    ·rw [h.2.2.2.2.1] at hx; cases hx
    ·exact (Val.are_iff _).1 h.2.2.2.2.2.2.2.2.2 x hx
    ·exact (Val.are_iff _).1 h.2.2.2.2.2.2.2.2.2 x hx
   exact ihn x (by have := List.sizeOf_lt_of_mem hx; simp at hn; omega) hxi x (by simp)
  have hrec : k1 = 6 → names.length ≤ items.length := fun hk => by
   unfold Val.Is at his
   rcases his with h | h | h | h | h | h
   ·omega
   ·omega
   ·omega
   ·omega
   ·omega
   ·omega
  have HT : Hid (Ty.takes (.mk tk tn elem attrs) (.mk k1 b1 n1 t1 ut1 ui1 items names) = if tk = 1 then decide (k1 = 1) && b1 else if tk = 2 then decide (k1 = 1) && !b1 else if tk = 3 then decide (k1 = 1) else if tk = 4 then decide (k1 = 2) else if tk = 5 then decide (k1 = 3)
    else if tk = 6 then decide (k1 = 4) && decide (ut1 = tn) else if tk = 7 then decide (k1 = 5) && items.all (fun x => Ty.takesOne elem x) else if tk = 8 then decide (k1 = 6) && recB attrs items names else false) := q_ (by rw [Ty.takes]; rfl)
  generalize Ty.takes (.mk tk tn elem attrs) (.mk k1 b1 n1 t1 ut1 ui1 items names) = res at *
  obtain ⟨_, _, e, ⟨hi0, hi1, hi2⟩, _⟩ := id hvs
  injection e with e1 e2 e3
  subst e1 e2 e3
  obtain ⟨_, _, e, ⟨ha0, ha1, ha2⟩, _⟩ := id hta
  injection e with e1 e2 e3
  subst e1 e3
  obtain ⟨_, _, e, ⟨hb0, hb1, hb2⟩, _⟩ := id hte
  injection e with e1 e2 e3
  subst e1 e3
  rw [zak] at hi0 ha0 hb0
  rw [zab] at hi2 ha2 hb2
  have HS := q_ hS
  have HV := q_ hv
  have HVs := q_ hvs
  have HTe := q_ hte
  have HTa := q_ hta
  have IH := q_ ih
  have HRec := q_ hrec
  have hx0 := fun o1 o2 => ((Ext.refl w).alloc o1).alloc o2
  have HX0 := q_ hx0
  clear hn his ihn hS hv ht hvs hte hta ih hrec hv' hx0
  by_cases h3 : tk = 3
  ·subst h3
   by_cases hk : k1 = 1
   ·subst hk
    go_enter Tryz.func13, Tryz.ntmps13
    go_wp2_with fail
    go_ret
    exact ⟨zal (by rw [HT.out]; simp), ((Ext.refl w).alloc _).alloc _⟩
   ·have ek : (k1 == 1) = false := by simpa using hk
    have HK := q_ hk
    clear hk
    go_enter Tryz.func13, Tryz.ntmps13
    go_wp2_with fail
    go_ret
    exact ⟨zal (by rw [HT.out]; simp [HK.out]), ((Ext.refl w).alloc _).alloc _⟩
  have e3 : (tk == 3) = false := by simpa using h3
  by_cases h4 : tk = 4
  ·subst h4
   by_cases hk : k1 = 2
   ·subst hk
    go_enter Tryz.func13, Tryz.ntmps13
    go_wp2_with fail
    go_ret
    exact ⟨zal (by rw [HT.out]; simp), ((Ext.refl w).alloc _).alloc _⟩
   ·have ek : (k1 == 2) = false := by simpa using hk
    have HK := q_ hk
    clear hk
    go_enter Tryz.func13, Tryz.ntmps13
    go_wp2_with fail
    go_ret
    exact ⟨zal (by rw [HT.out]; simp [HK.out]), ((Ext.refl w).alloc _).alloc _⟩
  have e4 : (tk == 4) = false := by simpa using h4
  by_cases h5 : tk = 5
  ·subst h5
   by_cases hk : k1 = 3
   ·subst hk
    go_enter Tryz.func13, Tryz.ntmps13
    go_wp2_with fail
    go_ret
    exact ⟨zal (by rw [HT.out]; simp), ((Ext.refl w).alloc _).alloc _⟩
   ·have ek : (k1 == 3) = false := by simpa using hk
    have HK := q_ hk
    clear hk
    go_enter Tryz.func13, Tryz.ntmps13
    go_wp2_with fail
    go_ret
    exact ⟨zal (by rw [HT.out]; simp [HK.out]), ((Ext.refl w).alloc _).alloc _⟩
  have e5 : (tk == 5) = false := by simpa using h5
  by_cases h1 : tk = 1
  ·subst h1
   by_cases hk : k1 = 1
   ·subst hk
    go_enter Tryz.func13, Tryz.ntmps13
    go_wp2_with fail
    go_ret
    exact ⟨zal (by rw [HT.out]; simp), ((Ext.refl w).alloc _).alloc _⟩
   ·have ek : (k1 == 1) = false := by simpa using hk
    have HK := q_ hk
    clear hk
    go_enter Tryz.func13, Tryz.ntmps13
    go_wp2_with fail
    go_ret
    exact ⟨zal (by rw [HT.out]; simp [HK.out]), ((Ext.refl w).alloc _).alloc _⟩
  have e1 : (tk == 1) = false := by simpa using h1
  by_cases h2 : tk = 2
  ·subst h2
   by_cases hk : k1 = 1
   ·subst hk
    go_enter Tryz.func13, Tryz.ntmps13
    go_wp2_with fail
    go_ret
    exact ⟨zal (by rw [HT.out]; simp), ((Ext.refl w).alloc _).alloc _⟩
   ·have ek : (k1 == 1) = false := by simpa using hk
    have HK := q_ hk
    clear hk
    go_enter Tryz.func13, Tryz.ntmps13
    go_wp2_with fail
    go_ret
    exact ⟨zal (by rw [HT.out]; simp [HK.out]), ((Ext.refl w).alloc _).alloc _⟩
  have e2 : (tk == 2) = false := by simpa using h2
  by_cases h6 : tk = 6
  ·subst h6
   by_cases hk : k1 = 4
   ·subst hk
    go_enter Tryz.func13, Tryz.ntmps13
    go_wp2_with fail
    go_ret
    exact ⟨zal (by rw [HT.out]; simp [zdf]), ((Ext.refl w).alloc _).alloc _⟩
   ·have ek : (k1 == 4) = false := by simpa using hk
    have HK := q_ hk
    clear hk
    go_enter Tryz.func13, Tryz.ntmps13
    go_wp2_with fail
    go_ret
    exact ⟨zal (by rw [HT.out]; simp [HK.out]), ((Ext.refl w).alloc _).alloc _⟩
  have e6 : (tk == 6) = false := by simpa using h6
  by_cases h7 : tk = 7
  ·subst h7
   by_cases hk : k1 = 5
   ·subst hk
    obtain ⟨mb, hmb⟩ : ∃ mb, items.any (fun x => !(Ty.takesOne elem x)) = mb := ⟨_, rfl⟩
    have HM := q_ hmb
    clear hmb
    go_enter Tryz.func13, Tryz.ntmps13
    go_wp2_with fail
    refine (containsFuncRV valR rfl 38 #[.pointer (some ⟨w.heap.size + 1, 0, none⟩)] (fun x => !(Ty.takesOne elem x)) S items _ _ Tryz.enterCV (fun b hb => Nat.lt_of_lt_of_le (HS.out b hb) (HX0.out _ _).size) ((valsAt_iff.1 HVs.out).alike (Alike.of_ext (HX0.out _ _) HS.out))
     (fun x hx cx w1 hw1 hxa => wrong1_ok x elem S w1 cx (w.heap.size + 1) _ _ _ _ (fun b hb => Nat.lt_of_lt_of_le (HS.out b hb) ((HX0.out _ _).trans hw1).size) hxa (HTe.out.alike (Alike.of_ext ((HX0.out _ _).trans hw1) HS.out)) ((hw1.block _ (by simp)).trans (by simpa using heap_alloc_new (w.alloc _) _)) (fun y hy => by
      obtain rfl : y = x := by simpa using hy
      exact IH.out y hx))).mono ?_
    rintro e w' ⟨rfl, hx2⟩
    have HX2 := q_ hx2
    clear hx2
    rw [HM.out]
    go_wp2_with fail
    go_ret
    exact ⟨zal (by rw [HT.out, ← HM.out, not_any]; simp), (HX0.out _ _).trans HX2.out⟩
   ·have ek : (k1 == 5) = false := by simpa using hk
    have HK := q_ hk
    clear hk
    go_enter Tryz.func13, Tryz.ntmps13
    go_wp2_with fail
    go_ret
    exact ⟨zal (by rw [HT.out]; simp [HK.out]), ((Ext.refl w).alloc _).alloc _⟩
  have e7 : (tk == 7) = false := by simpa using h7
  by_cases h8 : tk = 8
  ·subst h8
   by_cases hk : k1 = 6
   ·subst hk
    go_enter Tryz.func13, Tryz.ntmps13
    go_wp2_with fail
    refine (record_okC 6 b1 n1 t1 ut1 ui1 items names (HRec.out (by trivial)) attrs S _ [_, _, _, _, _, _, _, _] _ (fun b hb => Nat.lt_of_lt_of_le (HS.out b hb) (HX0.out _ _).size) (HV.out.alike (Alike.of_ext (HX0.out _ _) HS.out)) (HTa.out.alike (Alike.of_ext (HX0.out _ _) HS.out)) IH.out).mono ?_
    rintro e w' ⟨rfl, hx2⟩
    have HX2 := q_ hx2
    clear hx2
    obtain ⟨rb, hrb⟩ : ∃ rb, recB attrs items names = rb := ⟨_, rfl⟩
    rw [hrb]
    have HRb := q_ hrb
    clear hrb
    go_wp2_with fail
    go_ret
    exact ⟨zal (by rw [HT.out, HRb.out]; simp), (HX0.out _ _).trans HX2.out⟩
   ·have ek : (k1 == 6) = false := by simpa using hk
    have HK := q_ hk
    clear hk
    go_enter Tryz.func13, Tryz.ntmps13
    go_wp2_with fail
    go_ret
    exact ⟨zal (by rw [HT.out]; simp [HK.out]), ((Ext.refl w).alloc _).alloc _⟩
  have e8 : (tk == 8) = false := by simpa using h8
  have HN := q_ (show ¬ tk = 1 ∧ ¬ tk = 2 ∧ ¬ tk = 3 ∧ ¬ tk = 4 ∧ ¬ tk = 5 ∧ ¬ tk = 6 ∧ ¬ tk = 7 ∧ ¬ tk = 8 from ⟨h1, h2, h3, h4, h5, h6, h7, h8⟩)
  clear h1 h2 h3 h4 h5 h6 h7 h8
  go_enter Tryz.func13, Tryz.ntmps13
  go_wp2_with fail
  go_ret
  exact ⟨zal (by rw [HT.out]; simp [HN.out]), ((Ext.refl w).alloc _).alloc _⟩
end Go.Proofs.YtbkaffhbhimglaaGreat

/-
  The program's searches in a schema: a type, an action by its name. The conditions: the schema lies in memory as it should.
-/
namespace Go.Proofs.YtbkaffhbhimglaaGreat
open Go.RowKit
open Lib renaming hid → q_
set_option maxRecDepth 100000
set_option maxHeartbeats 800000
theorem zcj (w : World) (o0 o1 o2 : Obj) : (((w.alloc o0).alloc o1).alloc o2).heap[w.heap.size]? = some o0 ∧ (((w.alloc o0).alloc o1).alloc o2).heap[w.heap.size + 1]? = some o1 ∧ (((w.alloc o0).alloc o1).alloc o2).heap[w.heap.size + 2]? = some o2 ∧ (((w.alloc o0).alloc o1).alloc o2).heap.size = w.heap.size + 3 ∧ Ext w (((w.alloc o0).alloc o1).alloc o2) := by
 refine ⟨?_, ?_, ?_, by simp, (((Ext.refl w).alloc _).alloc _).alloc _⟩ <;> (simp only [World.alloc, Array.getElem?_push, Array.size_push]; (repeat rw [if_neg (by omega)]); simp)
theorem Tryz.enterType1 : ∀ args w, (callFunc 59 args).run Tryz.prog w = .ok (.enter 59 args) w := fun _ _ => by kernel_rfl
theorem sty_shape {S : Nat → Prop} {w : World} {x : EntT} {cs : List Value} (h : entTR.At S w x cs) : ∃ Aa la ca Ba lb cb, cs = [.string x.name, .slice Aa la ca, .slice Ba lb cb] := by
 obtain ⟨v1, v2, rfl, _, ⟨A1, c1, rfl, _⟩, ⟨A2, c2, rfl, _⟩⟩ := h
 exact ⟨_, _, _, _, _, _, rfl⟩
theorem sty1_ok (x : EntT) (nm : ByteArray) (S : Nat → Prop) (w : World) (cs : List Value) (g : Nat) (h : entTR.At S w x cs) (hg : OneBox w g (.string nm) 9) :
  Calls Tryz.prog 59 (#[.agg cs.toArray] ++ #[.pointer (some ⟨g, 0, none⟩)]) w fun e w' => e = .returned (.bool (x.name.toList == nm.toList)) ∧ Ext w w' := by
 obtain ⟨Aa, la, ca, Ba, lb, cb, rfl⟩ := sty_shape h
 have c0 := (hg.block (Below.heap_alloc w (.cells #[.string x.name, .slice Aa la ca, .slice Ba lb cb] 39) g (zad hg))).cell
 clear hg h
 show Calls Tryz.prog 59 #[.agg #[.string x.name, .slice Aa la ca, .slice Ba lb cb], .pointer (some ⟨g, 0, none⟩)] w _
 go_enter Tryz.func59, Tryz.ntmps59
 go_wp2_with fail
 go_ret
 exact ⟨rfl, (Ext.refl w).alloc _⟩
def zeroEntT : List Value := [.string ByteArray.empty, .slice none 0 0, .slice none 0 0]
theorem zeroEntT_one : ∀ v ∈ zeroEntT, v.oneCell' = true := by decide
abbrev zca (l : List EntT) (nm : ByteArray) : Option Nat := fidx (fun a : EntT => a.name.toList == nm.toList) l
def EntTAns (S : Nat → Prop) (l : List EntT) (nm : ByteArray) (w : World) (e : Ending) (w' : World) : Prop := ∃ cs : List Value, e = .returned (.tuple #[.agg cs.toArray, .bool (zca l nm).isSome]) ∧
 ((zca l nm = none ∧ cs = zeroEntT) ∨ ∃ i a, zca l nm = some i ∧ l[i]? = some a ∧ entTR.At S w' a cs) ∧ Ext w w'
theorem sty_ok (S : Nat → Prop) (s : Sch) (ss : List Value) (nm : ByteArray) (w : World) (hS : ∀ b, S b → b < w.heap.size) (hs : Sch.At S w s ss) :
  Calls Tryz.prog 28 #[.agg ss.toArray, .string nm] w (EntTAns S s.types nm w) := by
 obtain ⟨v1, v2, rfl, h1, h2⟩ := hs
 obtain ⟨A1, cap1, rfl, ⟨_, _, hl2⟩, _⟩ := id h1
 obtain ⟨A2, cap2, rfl, ⟨_, _, hm2⟩, _⟩ := id h2
 rw [zab] at hl2 hm2
 have HL := q_ h1
 have HS := q_ hS
 obtain ⟨l, hl⟩ : ∃ l, l = s.types := ⟨_, rfl⟩
 rw [← hl] at HL ⊢
 have hlen : l.length ≤ 1073741824 := by obtain ⟨_, _, _, ⟨h, _⟩, _⟩ := HL.out; rw [zak] at h; exact h
 have hlc := HL.out
 obtain ⟨_, _, e, ⟨_, hl1, _⟩, _⟩ := hlc
 injection e with e1 e2 e3
 subst e3
 rw [← hl] at *
 have HD : Hid (∀ e w', EntTAns S l nm w e w' ↔ ∃ cs : List Value, e = .returned (.tuple #[.agg cs.toArray, .bool (zca l nm).isSome]) ∧ ((zca l nm = none ∧ cs = zeroEntT) ∨ ∃ i a, zca l nm = some i ∧ l[i]? = some a ∧ entTR.At S w' a cs) ∧ Ext w w') := q_ fun _ _ => Iff.rfl
 clear h1 h2 hS hl e1 e2
 obtain ⟨n2, hn2⟩ : ∃ n2, n2 = s.acts.length := ⟨_, rfl⟩
 rw [← hn2] at *
 clear hn2
 go_enter Tryz.func28, Tryz.ntmps28
 go_wp2_with fail
 obtain ⟨hb0, hb1, hb2, hsz, hx⟩ := zcj w (.cells #[Value.slice A1 l.length cap1, .slice A2 n2 cap2] 25) (.cells #[.string nm] 9) (.cells zeroEntT.toArray 39)
 rw [show (#[Value.string ⟨#[]⟩, .slice none 0 0, .slice none 0 0] : Array Value) = zeroEntT.toArray from rfl]
 generalize ((w.alloc (.cells #[Value.slice A1 l.length cap1, .slice A2 n2 cap2] 25)).alloc (.cells #[.string nm] 9)).alloc (.cells zeroEntT.toArray 39) = W at hb0 hb1 hb2 hsz hx ⊢
 have HX := q_ hx
 have HLW := q_ (HL.out.alike (Alike.of_ext hx HS.out))
 have HB0 := q_ hb0
 have HB2 := q_ hb2
 have hsW : ∀ b, S b → b < W.heap.size := fun b hb => Nat.lt_of_lt_of_le (HS.out b hb) hx.size
 have hK := indexFuncRT entTR rfl 59 #[.pointer (some ⟨w.heap.size + 1, 0, none⟩)] (fun a : EntT => a.name.toList == nm.toList) S l _ W Tryz.enterType1 hsW HLW.out (fun a _ cs w1 hw1 ha => sty1_ok a nm S w1 cs (w.heap.size + 1) ha ((hw1.block _ (zad hb1)).trans hb1))
 have HK := q_ hK
 clear hb0 hb1 hb2 hsz hx hK
 refine HK.out.mono ?_
 rintro e w2 ⟨rfl, hx2⟩
 have HX2 := q_ (HX.out.trans hx2)
 have HB2' := q_ ((hx2.block _ (zad HB2.out)).trans HB2.out)
 have g0 : w2.cell? ⟨w.heap.size, 0, none⟩ = some (.slice A1 l.length cap1) := cell_of_row _ _ 0 _ _ _ ((hx2.block _ (zad HB0.out)).trans HB0.out)
 have HL2 := q_ (HLW.out.alike (Alike.of_ext hx2 hsW))
 clear hx2 hsW HK HLW HX HB2 HB0 HL
 obtain ⟨ix, hix⟩ : ∃ ix, zca l nm = ix := ⟨_, rfl⟩
 unfold zca at hix
 rw [hix]
 have HI := q_ hix
 clear hix
 cases ix with
 | none =>
  simp only [pos]
  go_wp2_with (refine zah rfl 39 _ _ rfl (w.heap.size + 1 + 1) 0 rfl zeroEntT rfl zcw rfl 39 zeroEntT.toArray HB2'.out (by simp [zeroEntT]) zeroEntT_one ?_)
  refine bodyPost_ret (v := .tuple #[.agg zeroEntT.toArray, .bool false]) (zaj Tryz.results28 rfl Tryz.aggRT zcw rfl (zao HB2'.out (by simp [zeroEntT]))) rfl ((HD.out _ _).2 ⟨zeroEntT, ?_, .inl ⟨HI.out, rfl⟩, HX2.out.setRow (by omega) _⟩)
  rw [show zca l nm = none from HI.out]; rfl
 | some i =>
  obtain ⟨a, hia, hp⟩ := zew HI.out
  have hil := (List.getElem?_eq_some_iff.1 hia).1
  obtain ⟨A', cap', e, _, hrow⟩ := HL2.out
  obtain ⟨b, o, rfl, hSb, hrow⟩ := hrow (by omega)
  injection e with e1 e2 e3
  subst e1
  obtain ⟨cs, hca, hat⟩ := hrow i a hia
  have hca : CellsAt w2 b (o + i * 3) cs := hca
  obtain ⟨Aa, la, ca, Ba, lb, cb, rfl⟩ := sty_shape hat
  have Hca := q_ hca
  have Hat := q_ hat
  have Hia := q_ hia
  clear hca hat hia hrow hSb hp e2 e3 HL2
  simp only [pos]
  go_wp2_with (first | refine zac rfl 39 _ rfl b (o + i * 3) rfl Tryz.aggRT zcw rfl Hca.out ?_ | refine zah rfl 39 _ _ rfl (w.heap.size + 1 + 1) 0 rfl [.string a.name, .slice Aa la ca, .slice Ba lb cb] rfl zcw rfl 39 zeroEntT.toArray HB2'.out (by simp [zeroEntT]) (entTR.one Hat.out) ?_)
  refine bodyPost_ret (v := .tuple #[.agg (show List Value from [.string a.name, .slice Aa la ca, .slice Ba lb cb]).toArray, .bool true]) (zaj Tryz.results28 rfl Tryz.aggRT zcw rfl (zao HB2'.out (by simp [zeroEntT]))) rfl ((HD.out _ _).2 ⟨[.string a.name, .slice Aa la ca, .slice Ba lb cb], ?_, .inr ⟨i, a, HI.out, Hia.out, ?_⟩, HX2.out.setRow (by omega) _⟩)
  ·rw [show zca l nm = some i from HI.out]; rfl
  ·exact entTR.alike Hat.out (fun b' hb => (GrownBy.setRow w2 (w.heap.size + 1 + 1) _).block b' (Nat.lt_of_lt_of_le (HS.out b' hb) HX2.out.size) (fun e => by injection e with e; have := HS.out b' hb; omega))
theorem Tryz.enterAction1 : ∀ args w, (callFunc 72 args).run Tryz.prog w = .ok (.enter 72 args) w := fun _ _ => by kernel_rfl
theorem sac_shape {S : Nat → Prop} {w : World} {x : ActT} {cs : List Value} (h : actTR.At S w x cs) : ∃ Aa la ca Ba lb cb Ca lc cc Da ld cd, cs = [.string x.id, .slice Aa la ca, .slice Ba lb cb, .slice Ca lc cc, .slice Da ld cd] := by
 obtain ⟨v1, v2, v3, v4, rfl, _, ⟨A1, c1, rfl, _⟩, ⟨A2, c2, rfl, _⟩, ⟨A3, c3, rfl, _⟩, ⟨A4, c4, rfl, _⟩⟩ := h
 exact ⟨_, _, _, _, _, _, _, _, _, _, _, _, rfl⟩
theorem sac1_ok (x : ActT) (nm : ByteArray) (S : Nat → Prop) (w : World) (cs : List Value) (g : Nat) (h : actTR.At S w x cs) (hg : OneBox w g (.string nm) 9) :
  Calls Tryz.prog 72 (#[.agg cs.toArray] ++ #[.pointer (some ⟨g, 0, none⟩)]) w fun e w' => e = .returned (.bool (x.id.toList == nm.toList)) ∧ Ext w w' := by
 obtain ⟨Aa, la, ca, Ba, lb, cb, Ca, lc, cc, Da, ld, cd, rfl⟩ := sac_shape h
 have c0 := (hg.block (Below.heap_alloc w (.cells #[.string x.id, .slice Aa la ca, .slice Ba lb cb, .slice Ca lc cc, .slice Da ld cd] 41) g (zad hg))).cell
 clear hg h
 show Calls Tryz.prog 72 #[.agg #[.string x.id, .slice Aa la ca, .slice Ba lb cb, .slice Ca lc cc, .slice Da ld cd], .pointer (some ⟨g, 0, none⟩)] w _
 go_enter Tryz.func72, Tryz.ntmps72
 go_wp2_with fail
 go_ret
 exact ⟨rfl, (Ext.refl w).alloc _⟩
def zeroActT : List Value := [.string ByteArray.empty, .slice none 0 0, .slice none 0 0, .slice none 0 0, .slice none 0 0]
theorem zeroActT_one : ∀ v ∈ zeroActT, v.oneCell' = true := by decide
abbrev zbi (l : List ActT) (nm : ByteArray) : Option Nat := fidx (fun a : ActT => a.id.toList == nm.toList) l
def ActTAns (S : Nat → Prop) (l : List ActT) (nm : ByteArray) (w : World) (e : Ending) (w' : World) : Prop := ∃ cs : List Value, e = .returned (.tuple #[.agg cs.toArray, .bool (zbi l nm).isSome]) ∧
 ((zbi l nm = none ∧ cs = zeroActT) ∨ ∃ i a, zbi l nm = some i ∧ l[i]? = some a ∧ actTR.At S w' a cs) ∧ Ext w w'
theorem sac_ok (S : Nat → Prop) (s : Sch) (ss : List Value) (nm : ByteArray) (w : World) (hS : ∀ b, S b → b < w.heap.size) (hs : Sch.At S w s ss) :
  Calls Tryz.prog 40 #[.agg ss.toArray, .string nm] w (ActTAns S s.acts nm w) := by
 obtain ⟨v1, v2, rfl, h1, h2⟩ := hs
 obtain ⟨A1, cap1, rfl, ⟨_, _, hl2⟩, _⟩ := id h2
 obtain ⟨A2, cap2, rfl, ⟨_, _, hm2⟩, _⟩ := id h1
 rw [zab] at hl2 hm2
 have HL := q_ h2
 have HS := q_ hS
 obtain ⟨l, hl⟩ : ∃ l, l = s.acts := ⟨_, rfl⟩
 rw [← hl] at HL ⊢
 have hlen : l.length ≤ 1073741824 := by obtain ⟨_, _, _, ⟨h, _⟩, _⟩ := HL.out; rw [zak] at h; exact h
 have hlc := HL.out
 obtain ⟨_, _, e, ⟨_, hl1, _⟩, _⟩ := hlc
 injection e with e1 e2 e3
 subst e3
 rw [← hl] at *
 have HD : Hid (∀ e w', ActTAns S l nm w e w' ↔ ∃ cs : List Value, e = .returned (.tuple #[.agg cs.toArray, .bool (zbi l nm).isSome]) ∧ ((zbi l nm = none ∧ cs = zeroActT) ∨ ∃ i a, zbi l nm = some i ∧ l[i]? = some a ∧ actTR.At S w' a cs) ∧ Ext w w') := q_ fun _ _ => Iff.rfl
 clear h1 h2 hS hl e1 e2
 obtain ⟨n2, hn2⟩ : ∃ n2, n2 = s.types.length := ⟨_, rfl⟩
 rw [← hn2] at *
 clear hn2
 go_enter Tryz.func40, Tryz.ntmps40
 go_wp2_with fail
 obtain ⟨hb0, hb1, hb2, hsz, hx⟩ := zcj w (.cells #[Value.slice A2 n2 cap2, .slice A1 l.length cap1] 25) (.cells #[.string nm] 9) (.cells zeroActT.toArray 41)
 rw [show (#[Value.string ⟨#[]⟩, .slice none 0 0, .slice none 0 0, .slice none 0 0, .slice none 0 0] : Array Value) = zeroActT.toArray from rfl]
 generalize ((w.alloc (.cells #[Value.slice A2 n2 cap2, .slice A1 l.length cap1] 25)).alloc (.cells #[.string nm] 9)).alloc (.cells zeroActT.toArray 41) = W at hb0 hb1 hb2 hsz hx ⊢
 have HX := q_ hx
 have HLW := q_ (HL.out.alike (Alike.of_ext hx HS.out))
 have HB0 := q_ hb0
 have HB2 := q_ hb2
 have hsW : ∀ b, S b → b < W.heap.size := fun b hb => Nat.lt_of_lt_of_le (HS.out b hb) hx.size
 have hK := indexFuncRC actTR rfl 72 #[.pointer (some ⟨w.heap.size + 1, 0, none⟩)] (fun a : ActT => a.id.toList == nm.toList) S l _ W Tryz.enterAction1 hsW HLW.out (fun a _ cs w1 hw1 ha => sac1_ok a nm S w1 cs (w.heap.size + 1) ha ((hw1.block _ (zad hb1)).trans hb1))
 have HK := q_ hK
 clear hb0 hb1 hb2 hsz hx hK
 refine HK.out.mono ?_
 rintro e w2 ⟨rfl, hx2⟩
 have HX2 := q_ (HX.out.trans hx2)
 have HB2' := q_ ((hx2.block _ (zad HB2.out)).trans HB2.out)
 have g0 : w2.cell? ⟨w.heap.size, 1, none⟩ = some (.slice A1 l.length cap1) := cell_of_row _ _ 1 _ _ _ ((hx2.block _ (zad HB0.out)).trans HB0.out)
 have HL2 := q_ (HLW.out.alike (Alike.of_ext hx2 hsW))
 clear hx2 hsW HK HLW HX HB2 HB0 HL
 obtain ⟨ix, hix⟩ : ∃ ix, zbi l nm = ix := ⟨_, rfl⟩
 unfold zbi at hix
 rw [hix]
 have HI := q_ hix
 clear hix
 cases ix with
 | none =>
  simp only [pos]
  go_wp2_with (refine zah rfl 41 _ _ rfl (w.heap.size + 1 + 1) 0 rfl zeroActT rfl zcg rfl 41 zeroActT.toArray HB2'.out (by simp [zeroActT]) zeroActT_one ?_)
  refine bodyPost_ret (v := .tuple #[.agg zeroActT.toArray, .bool false]) (zaj Tryz.results40 rfl zeh zcg rfl (zao HB2'.out (by simp [zeroActT]))) rfl ((HD.out _ _).2 ⟨zeroActT, ?_, .inl ⟨HI.out, rfl⟩, HX2.out.setRow (by omega) _⟩)
  rw [show zbi l nm = none from HI.out]; rfl
 | some i =>
  obtain ⟨a, hia, hp⟩ := zew HI.out
  have hil := (List.getElem?_eq_some_iff.1 hia).1
  obtain ⟨A', cap', e, _, hrow⟩ := HL2.out
  obtain ⟨b, o, rfl, hSb, hrow⟩ := hrow (by omega)
  injection e with e1 e2 e3
  subst e1
  obtain ⟨cs, hca, hat⟩ := hrow i a hia
  have hca : CellsAt w2 b (o + i * 5) cs := hca
  obtain ⟨Aa, la, ca, Ba, lb, cb, Ca, lc, cc, Da, ld, cd, rfl⟩ := sac_shape hat
  have Hca := q_ hca
  have Hat := q_ hat
  have Hia := q_ hia
  clear hca hat hia hrow hSb hp e2 e3 HL2
  simp only [pos]
  go_wp2_with (first | refine zac rfl 41 _ rfl b (o + i * 5) rfl zeh zcg rfl Hca.out ?_ | refine zah rfl 41 _ _ rfl (w.heap.size + 1 + 1) 0 rfl [.string a.id, .slice Aa la ca, .slice Ba lb cb, .slice Ca lc cc, .slice Da ld cd] rfl zcg rfl 41 zeroActT.toArray HB2'.out (by simp [zeroActT]) (actTR.one Hat.out) ?_)
  refine bodyPost_ret (v := .tuple #[.agg (show List Value from [.string a.id, .slice Aa la ca, .slice Ba lb cb, .slice Ca lc cc, .slice Da ld cd]).toArray, .bool true]) (zaj Tryz.results40 rfl zeh zcg rfl (zao HB2'.out (by simp [zeroActT]))) rfl ((HD.out _ _).2 ⟨[.string a.id, .slice Aa la ca, .slice Ba lb cb, .slice Ca lc cc, .slice Da ld cd], ?_, .inr ⟨i, a, HI.out, Hia.out, ?_⟩, HX2.out.setRow (by omega) _⟩)
  ·rw [show zbi l nm = some i from HI.out]; rfl
  ·exact actTR.alike Hat.out (fun b' hb => (GrownBy.setRow w2 (w.heap.size + 1 + 1) _).block b' (Nat.lt_of_lt_of_le (HS.out b' hb) HX2.out.size) (fun e => by injection e with e; have := HS.out b' hb; omega))
end Go.Proofs.YtbkaffhbhimglaaGreat
