/-
  Maps from texts to truths: which texts one holds; ranging over one. The conditions: none (definitions and lemmas).
-/
import Derived.Test.YtebfoimbdljbmaaGreatDoorGi
import Derived.StringKeys
namespace Go.Proofs.YtebfoimbdljbmaaGreatDoor
open Go.RowKit Go.Maps
set_option maxRecDepth 100000
theorem Tryz.lawS : Keyed Tryz.prog 9 := string_keyed Tryz.underlying9
def FitS (s : ByteArray) : Prop := s.size ≤ maxLen
def valS (s : ByteArray) : Value := .string s
def litS (s : ByteArray) : Lit := .string s.data.toList
theorem key_of_str {s : ByteArray} (h : FitS s) : keyOf Tryz.prog 9 (valS s) = some (litS s) := Go.WideMaps.keyOf_string_mk Tryz.underlying9 h
theorem str_of_key {v : Value} {kl : Lit} (h : keyOf Tryz.prog 9 v = some kl) : ∃ p, v = valS p ∧ FitS p ∧ kl = litS p := by
 obtain ⟨s, rfl, rfl, hs⟩ := Go.WideMaps.string_of_keyOf Tryz.underlying9 h
 exact ⟨s, rfl, hs, rfl⟩
theorem litS_inj {p q : ByteArray} (_ : FitS p) (_ : FitS q) (h : litS p = litS q) : p = q := by
 injection h with h
 cases p; cases q
 congr 1
 exact Array.toList_inj.1 h
theorem litS_same {p q : ByteArray} (hp : FitS p) (hq : FitS q) : (litS p).sameKey (litS q) = decide (p = q) := by
 by_cases h : p = q
 ·subst h
  rw [WideAt.sameKey_self (Tryz.lawS.key (key_of_str hp))]; simp
 ·rw [sameKey_ne fun e => h (litS_inj hp hq e)]; simp [h]
structure ReadsS (D : DataW Unit) (m : ByteArray → Bool) : Prop where
 has : ∀ p, FitS p → Maps.has D (litS p) = m p
 at' : ∀ p, FitS p → m p = true → D.atKey (litS p) (.lit (.bool false)) = .lit (.bool true)
 keys : ∀ kl, Maps.has D kl = true → ∃ p, FitS p ∧ kl = litS p
def MapS (w : World) (b : Nat) (m : ByteArray → Bool) (cnt : Nat) : Prop :=
 ∃ D n, w.ownsMap Tryz.prog 9 (plainElem Tryz.prog 4) b n D ∧ n ≤ 1073741824 ∧ ReadsS D m ∧ Maps.size D = cnt
theorem MapS.made (w : World) : MapS (w.alloc (.map #[] 0)) w.heap.size (fun _ => false) 0 :=
 ⟨_, 0, World.ownsMap_made _ _ _ _, by omega, ⟨fun _ _ => rfl, fun _ _ h => by simp at h, fun _ h => by simp [Maps.has] at h⟩, rfl⟩
theorem MapS.block {w w' : World} {b : Nat} {m : ByteArray → Bool} {cnt : Nat} (h : MapS w b m cnt) (hb : w'.heap[b]? = w.heap[b]?) : MapS w' b m cnt := by
 obtain ⟨D, n, ⟨es, clock, h1, h2⟩, h3⟩ := h
 exact ⟨D, n, ⟨es, clock, hb.trans h1, h2⟩, h3⟩
theorem MapS.lt {w : World} {b : Nat} {m : ByteArray → Bool} {cnt : Nat} (h : MapS w b m cnt) : b < w.heap.size := by
 obtain ⟨D, n, h1, _⟩ := h; exact h1.lt
theorem MapS.ext {w w' : World} {b : Nat} {m : ByteArray → Bool} {cnt : Nat} (h : MapS w b m cnt) (k : Ext w w') : MapS w' b m cnt := h.block (k.block _ h.lt)
theorem MapS.congr {w : World} {b : Nat} {m m' : ByteArray → Bool} {cnt : Nat} (h : MapS w b m cnt) (he : ∀ u, m u = m' u) : MapS w b m' cnt := by
 have : m = m' := funext he
 rw [← this]; exact h
theorem MapS.isMap {w : World} {b : Nat} {m : ByteArray → Bool} {cnt : Nat} (h : MapS w b m cnt) : ∃ es clock, w.heap[b]? = some (.map es clock) := by
 obtain ⟨D, n, ⟨es, clock, h1, _⟩, _⟩ := h; exact ⟨es, clock, h1⟩
theorem MapS.look {w : World} {b : Nat} {m : ByteArray → Bool} {cnt : Nat} (h : MapS w b m cnt) {p : ByteArray} (hp : FitS p) : (Instr.lookup 102 (.map (some b)) (valS p) false).run Tryz.prog w = .ok (.bool (m p)) w := by
 obtain ⟨D, n, hown, hn, hr, hc⟩ := h
 obtain ⟨v, ps, hrun, hv⟩ := hown.lookup Tryz.lawS Tryz.underlying102 (Tryz.zeroB w) (plainElem_bool Tryz.underlying4 false) (key_of_str hp)
 obtain ⟨x, rfl, hx⟩ := bool_inv hv
 rw [hrun]
 congr 2
 injection hx with hx _
 cases hm : m p with
 | false =>
  have h0 := atKey_of_not_has (D := D) (k := litS p) (by rw [hr.has p hp, hm]) (.lit (.bool false))
  rw [h0] at hx
  injection hx with hx
  injection hx with hx
  exact hx.symm
 | true =>
  rw [hr.at' p hp hm] at hx
  injection hx with hx
  injection hx with hx
  exact hx.symm
theorem MapS.put {w : World} {b : Nat} {m : ByteArray → Bool} {cnt : Nat} (h : MapS w b m cnt) (hcnt : cnt ≤ 1048576) {p : ByteArray} (hp : FitS p) :
  ∃ w', (Instr.mapUpdate 102 (.map (some b)) (valS p) (.bool true)).run Tryz.prog w = .ok () w' ∧ MapS w' b (fun y => decide (y = p) || m y) (cnt + if m p then 0 else 1) ∧ GrownBy w w' (some b) := by
 obtain ⟨D, n, hown, hn, hr, hc⟩ := h
 have hown' : w.ownsMap Tryz.prog 9 (plainElem Tryz.prog 4) b cnt D := by
  obtain ⟨es, clock, h1, h2, h3, rfl⟩ := hown
  refine ⟨es, clock, h1, h2, ?_, rfl⟩
  rw [← hc]
  simp only [Maps.size, length_sorted, List.length_map, Array.length_toList]; omega
 obtain ⟨w', hrun, r1, r2⟩ := hown'.store (val := .bool true) Tryz.lawS Tryz.underlying102 (by unfold maxLen; omega) (key_of_str hp) (plainElem_bool Tryz.underlying4 true)
 have hkl := Tryz.lawS.key (key_of_str hp)
 refine ⟨w', hrun, ⟨_, cnt + 1, r1, by omega, ⟨fun y hy => ?_, fun y hy hj => ?_, fun kl hkl => ?_⟩, ?_⟩, ⟨r2.grown, zb7 _ _ _ _ hrun⟩⟩
 ·by_cases he : y = p
  ·subst he
   rw [has_put_same hown.isMap hkl]; simp
  ·rw [has_put_other fun e => he (litS_inj hy hp e), hr.has y hy]; simp [he]
 ·by_cases he : y = p
  ·subst he
   rw [atKey_put_same hown.isMap hkl]
  ·simp [he] at hj
   rw [atKey_put_other fun e => he (litS_inj hy hp e), hr.at' y hy hj]
 ·by_cases he : kl = litS p
  ·exact ⟨p, hp, he⟩
  ·rw [has_put_other he] at hkl
   exact hr.keys kl hkl
 ·rw [size_put (hown.tidy Tryz.lawS), hc, hr.has p hp]
  split <;> simp_all
def RangeS (w : World) (b r : Nat) (m left : ByteArray → Bool) (cnt : Nat) : Prop :=
 ∃ D n lf, w.ranges Tryz.prog 9 (plainElem Tryz.prog 4) b r n D lf cnt ∧ ReadsS D m ∧ (∀ p, FitS p → lf (litS p) = left p) ∧ ∀ kl, lf kl = true → ∃ p, FitS p ∧ kl = litS p
theorem RangeS.block {w w' : World} {b r : Nat} {m left : ByteArray → Bool} {cnt : Nat} (h : RangeS w b r m left cnt) (hb : w'.heap[b]? = w.heap[b]?) (hr : w'.heap[r]? = w.heap[r]?) : RangeS w' b r m left cnt := by
 obtain ⟨D, n, lf, ⟨es, clock, since, seen, c0, h1, h2, h3, h4, h5, h6⟩, h7⟩ := h
 exact ⟨D, n, lf, ⟨es, clock, since, seen, c0, hb.trans h1, h2, h3, h4, hr.trans h5, h6⟩, h7⟩
theorem RangeS.lt {w : World} {b r : Nat} {m left : ByteArray → Bool} {cnt : Nat} (h : RangeS w b r m left cnt) : b < w.heap.size ∧ r < w.heap.size := by
 obtain ⟨D, n, lf, h1, _⟩ := h; exact ⟨h1.owns.lt, h1.lt⟩
theorem RangeS.ext {w w' : World} {b r : Nat} {m left : ByteArray → Bool} {cnt : Nat} (h : RangeS w b r m left cnt) (k : Ext w w') : RangeS w' b r m left cnt := h.block (k.block _ h.lt.1) (k.block _ h.lt.2)
theorem RangeS.isIter {w : World} {b r : Nat} {m left : ByteArray → Bool} {cnt : Nat} (h : RangeS w b r m left cnt) : ∃ x y z, w.heap[r]? = some (.mapIter (some b) x y z) := by
 obtain ⟨D, n, lf, ⟨es, clock, since, seen, c0, h1, h2, h3, h4, h5, h6⟩, h7⟩ := h
 exact ⟨_, _, _, h5⟩
theorem RangeS.left_eq {w : World} {b r : Nat} {m left : ByteArray → Bool} {cnt : Nat} (h : RangeS w b r m left cnt) : w.rangeLeft b r = cnt := by
 obtain ⟨D, n, lf, h1, _⟩ := h; exact h1.left_eq
section
variable {ops : Array Oper} {rest : List Oper} {o : Oper} {a : Act} {w : World} {Q : Exit → Act → World → Prop}
end
end Go.Proofs.YtebfoimbdljbmaaGreatDoor
