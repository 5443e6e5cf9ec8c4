/-
  Entities in memory; the order of names; where names stand first. The conditions: the arguments lie in memory as they should.
-/
import Derived.Test.YtpkgkabcikmopaaMapU
import Derived.Test.YtpkgkabcikmopaaSortG
import Derived.Test.YtpkgkabcikmopaaBox
namespace Go.Proofs.Ytpkgkabcikmopaa
open Go.RowKit

theorem FitU.of {a b : ByteArray} (h1 : a.size ≤ maxLen) (h2 : b.size ≤ maxLen) : FitU (a, b) := ⟨h1, h2⟩
/-- names -/
def uidR : Rep Uid where
  size := 2
  pos := by omega
  At _ _ x cs := cs = [.string x.1, .string x.2] ∧ FitU x
  len h := by rw [h.1]; rfl
  one h := by rw [h.1]; simp [Value.oneCell']
  alike h _ := h
  mono h _ := h
/-- entities -/
def entR : Rep Ent where
  size := 11
  pos := by omega
  At S w e cs := ∃ pv acs, cs = .string e.uid.1 :: .string e.uid.2 :: pv :: acs ∧ FitU e.uid ∧ uidR.RowsAt S w e.ps pv ∧ Val.At S w e.av acs
  len h := by
    obtain ⟨pv, acs, rfl, _, _, h⟩ := h
    simp [h.length]
  one h := by
    obtain ⟨pv, acs, rfl, _, h1, h⟩ := h
    intro u hu
    simp only [List.mem_cons] at hu
    rcases hu with rfl | rfl | rfl | hu
    · rfl
    · rfl
    · exact h1.one
    · exact h.one u hu
  alike h k := by
    obtain ⟨pv, acs, rfl, h0, h1, h2⟩ := h
    exact ⟨pv, acs, rfl, h0, h1.alike k, h2.alike k⟩
  mono h k := by
    obtain ⟨pv, acs, rfl, h0, h1, h2⟩ := h
    exact ⟨pv, acs, rfl, h0, h1.mono k, h2.mono k⟩
theorem ent_shape {S : Nat → Prop} {w : World} {e : Ent} {cs : List Value} (h : entR.At S w e cs) : ∃ A l c k b n t ut ui A1 l1 c1 A2 l2 c2,
    cs = [.string e.uid.1, .string e.uid.2, .slice A l c, .int .i64 k, .bool b, .int .i64 n, .string t, .string ut, .string ui, .slice A1 l1 c1, .slice A2 l2 c2] := by
  obtain ⟨pv, acs, rfl, _, ⟨A, cap, rfl, _⟩, h⟩ := h
  obtain ⟨k, b, n, t, ut, ui, A1, l1, c1, A2, l2, c2, rfl⟩ := h.shape
  exact ⟨_, _, _, _, _, _, _, _, _, _, _, _, _, _, _, rfl⟩

theorem Try.agg60 : ∀ w, (isAgg 60).run Try.prog w = .ok true w := fun _ => by kernel_rfl
theorem Try.size60 : ∀ w, (Go.sizeOf 60).run Try.prog w = .ok 11 w := fun _ => by kernel_rfl
theorem Try.agg23 : ∀ w, (isAgg 23).run Try.prog w = .ok true w := fun _ => by kernel_rfl
theorem Try.size23 : ∀ w, (Go.sizeOf 23).run Try.prog w = .ok 2 w := fun _ => by kernel_rfl

set_option maxRecDepth 100000 in
theorem orderU_ok (a b : Uid) (w : World) : Calls Try.prog 63 #[valU a, valU b] w fun e w' => e = .returned (.int .i64 (ordU a b)) ∧ Ext w w' := by
  obtain ⟨t1, i1⟩ := a
  obtain ⟨t2, i2⟩ := b
  unfold valU ordU
  go_enter Try.func63, Try.ntmps63
  go_wp2
  obtain ⟨w1, hw1⟩ : ∃ w1, w1 = (w.alloc (.cells #[.string t1, .string i1] 23)).alloc (.cells #[.string t2, .string i2] 23) := ⟨_, rfl⟩
  rw [← hw1]
  have c0 := cell_regrown (show w1.cell? ⟨w.heap.size, 0, none⟩ = some (.string t1) by rw [hw1]; go_simp)
  have c1 := cell_regrown (show w1.cell? ⟨w.heap.size, 1, none⟩ = some (.string i1) by rw [hw1]; go_simp)
  have c2 := cell_regrown (show w1.cell? ⟨w.heap.size + 1, 0, none⟩ = some (.string t2) by rw [hw1]; go_simp)
  have c3 := cell_regrown (show w1.cell? ⟨w.heap.size + 1, 1, none⟩ = some (.string i2) by rw [hw1]; go_simp)
  have hx : Ext w w1 := by rw [hw1]; exact ((Ext.refl w).alloc _).alloc _
  have HX := Lib.hid hx
  clear hw1 hx
  refine region_later_tail 10 (by kernel_rfl) (by kernel_rfl) ?_
  simp only [List.take_succ_cons, List.take_zero, List.drop_succ_cons, List.drop_zero]
  repeat (quiet_step (first | exact later_same (compare_string _ _) _ _))
  refine wpQuiet_nil ?_
  intro w2 hw2
  have HX2 := Lib.hid hw2
  clear hw2 c0 c1 c2 c3
  go_wp2_with (go_at_call 55; refine (or_two (cmpS t1 t2) (cmpS i1 i2) _ _ (by go_simp) (by go_simp)).mono ?_; rintro e w' ⟨rfl, rfl⟩)
  go_ret
  exact ⟨rfl, (HX.out.trans HX2.out).alloc _⟩

theorem Try.enterOrdU : ∀ args w, (callFunc 63 args).run Try.prog w = .ok (.enter 63 args) w := fun _ _ => by kernel_rfl

/-- a struct laid into a new block -/
theorem idx_take_succ {us : List Uid} {k : Nat} {u y : Uid} (hu : us[k]? = some u) : idx (us.take (k + 1)) y = if (idx (us.take k) y).isSome then idx (us.take k) y else if y = u then some k else none := by
  obtain ⟨hk, rfl⟩ := List.getElem?_eq_some_iff.1 hu
  rw [List.take_succ_eq_append_getElem hk]
  have key : ∀ (l : List Uid) (u y : Uid), idx (l ++ [u]) y = if (idx l y).isSome then idx l y else if y = u then some l.length else none := by
    intro l u y
    induction l with
    | nil => by_cases h : u = y <;> simp [idx, h, eq_comm]
    | cons x r ih =>
      by_cases h : x = y
      · simp [idx, h]
      · simp only [List.cons_append, idx, h, if_false, ih]
        cases hi : idx r y with
        | none => by_cases h2 : y = u <;> simp [h2]
        | some i => simp
  rw [key]
  simp [Nat.min_eq_left (Nat.le_of_lt hk)]

/-- how many different ones there are among the first k -/
def dis (us : List Uid) : Nat → Nat
  | 0 => 0
  | k + 1 => dis us k + match us[k]? with
    | some u => if (idx (us.take k) u).isSome then 0 else 1
    | none => 0
theorem dis_succ {us : List Uid} {k : Nat} {u : Uid} (h : us[k]? = some u) : dis us (k + 1) = dis us k + if (idx (us.take k) u).isSome then 0 else 1 := by simp [dis, h]
theorem dis_le (us : List Uid) : ∀ k, dis us k ≤ k
  | 0 => Nat.le_refl _
  | k + 1 => by
    have := dis_le us k
    simp only [dis]
    split
    · split <;> omega
    · omega
theorem dis_full (us : List Uid) : ∀ k, k ≤ us.length → (dis us k = k ↔ (us.take k).Nodup)
  | 0, _ => by simp [dis]
  | k + 1, h => by
    have hk : us[k]? = some us[k] := List.getElem?_eq_getElem (by omega)
    have ih := dis_full us k (by omega)
    have hle := dis_le us k
    rw [dis_succ hk, List.take_succ_eq_append_getElem (by omega)]
    have hn : (us.take k ++ [us[k]]).Nodup ↔ (us.take k).Nodup ∧ us[k] ∉ us.take k := by
      rw [(List.perm_append_singleton us[k] (us.take k)).nodup_iff, List.nodup_cons]
      exact And.comm
    rw [hn, ← ih, ← idx_none]
    cases hi : idx (us.take k) us[k] with
    | none => simp
    | some i => simp; omega
theorem dis_nodup {us : List Uid} (h : us.Nodup) : dis us us.length = us.length := (dis_full us _ (Nat.le_refl _)).2 (by rw [List.take_length]; exact h)
theorem nodup_of_dis {us : List Uid} (h : ¬ dis us us.length < us.length) : us.Nodup := by
  have h1 := dis_le us us.length
  have := (dis_full us _ (Nat.le_refl _)).1 (by omega)
  rwa [List.take_length] at this
end Go.Proofs.Ytpkgkabcikmopaa
