/-
  Is each value of one type of another one: what the document's Below answers. The conditions: of sets, what they hold is one; both lie in memory as they should.
-/
import Derived.Test.YtbkaffhbhimglaaGreatRefTQ
namespace Go.Proofs.YtbkaffhbhimglaaGreat
open Go.RowKit
theorem ones_all : ∀ (l : List Ty), Ty.onesL l = true → ∀ x ∈ l, x.ones = true
 | [], _, _, h => by simp at h
 | t :: r, h, x, hx => by
  simp only [Ty.onesL, Bool.and_eq_true] at h
  rcases List.mem_cons.1 hx with rfl | hx
  ·exact h.1
  ·exact ones_all r h.2 x hx
theorem atrs_all : ∀ (l : List Atr), Atr.onesL l = true → ∀ x ∈ l, x.ty.ones = true
 | [], _, _, h => by simp at h
 | .mk n t o :: r, h, x, hx => by
  simp only [Atr.onesL, Atr.ones1, Bool.and_eq_true] at h
  rcases List.mem_cons.1 hx with rfl | hx
  ·exact h.1
  ·exact atrs_all r h.2 x hx
theorem ones_parts {k : Int} {n : ByteArray} {e : List Ty} {a : List Atr} (h : (Ty.mk k n e a).ones = true) : (k = 7 → e.length = 1) ∧ (∀ x ∈ e, x.ones = true) ∧ ∀ x ∈ a, x.ty.ones = true := by
 simp only [Ty.ones, Bool.and_eq_true, Bool.or_eq_true, decide_eq_true_eq, beq_iff_eq] at h
 exact ⟨fun hk => h.1.resolve_left fun h => h hk, ones_all e h.2.1, atrs_all a h.2.2⟩
theorem Atr.size_get {l : List Atr} {i : Nat} {x : Atr} (h : l[i]? = some x) : SizeOf.sizeOf x.ty < SizeOf.sizeOf l := by
 have h1 := List.sizeOf_lt_of_mem (List.mem_of_getElem? h)
 have h2 : SizeOf.sizeOf x.ty < SizeOf.sizeOf x := by cases x; simp [Atr.ty]; omega
 omega
end Go.Proofs.YtbkaffhbhimglaaGreat
