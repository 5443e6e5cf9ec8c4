/-
  How small a value is, how deep: what the statements' own measures and both Depths come to. The conditions: none beyond each contract's own.
-/
import Derived.Test.YtpkgkabcikmopaaOrd
namespace Go.Proofs.Ytpkgkabcikmopaa
open Go.RowKit

mutual
/-- is one small enough -/
def Val.few : Val → Int → Bool
  | .mk _ _ _ _ _ _ items names, deep => !(decide (20 < items.length) || decide (20 < names.length) || decide (60 < deep)) && Val.fews items (deep + 1)
def Val.fews : List Val → Int → Bool
  | [], _ => true
  | x :: r, d => x.few d && Val.fews r d
end
theorem Val.fews_iff (d : Int) : ∀ l : List Val, Val.fews l d = true ↔ ∀ x ∈ l, x.few d = true
  | [] => by simp [Val.fews]
  | x :: r => by simp [Val.fews, Val.fews_iff d r]
theorem Val.fews_of {l : List Val} {d : Int} (h : ∀ i x, i < l.length → l[i]? = some x → x.few d = true) : Val.fews l d = true :=
  (Val.fews_iff d l).2 fun x hx => by
    obtain ⟨i, hi, rfl⟩ := List.getElem_of_mem hx
    exact h i _ hi (List.getElem?_eq_getElem hi)
theorem Val.fews_not {l : List Val} {d : Int} {i : Nat} {x : Val} (hx : l[i]? = some x) (h : x.few d = false) : Val.fews l d = false := by
  rw [Bool.eq_false_iff]
  intro h'
  have := (Val.fews_iff d l).1 h' x (List.mem_of_getElem? hx)
  simp [h] at this

mutual
/-- how deep -/
def Val.dep : Val → Nat
  | .mk k _ _ _ _ _ items _ => if k = 5 ∨ k = 6 then Val.deps items + 1 else 1
def Val.deps : List Val → Nat
  | [] => 0
  | x :: r => max x.dep (Val.deps r)
end
theorem Val.deps_take_succ : ∀ {l : List Val} {k : Nat} {x : Val}, l[k]? = some x → Val.deps (l.take (k + 1)) = max (Val.deps (l.take k)) x.dep
  | [], _, _, h => by simp at h
  | y :: r, 0, x, h => by simp at h; subst h; simp [Val.deps]
  | y :: r, k + 1, x, h => by
    simp only [List.take_succ_cons, Val.deps]
    rw [Val.deps_take_succ (l := r) (k := k) (by simpa using h), Nat.max_assoc]
theorem Val.deps_mem {x : Val} : ∀ {l : List Val}, x ∈ l → x.dep ≤ Val.deps l
  | y :: r, h => by
    simp only [Val.deps]
    rcases List.mem_cons.1 h with rfl | h
    · omega
    · have := Val.deps_mem h; omega
theorem Val.deps_le {n : Nat} : ∀ {l : List Val}, (∀ x ∈ l, x.dep ≤ n) → Val.deps l ≤ n
  | [], _ => by simp [Val.deps]
  | y :: r, h => by
    have := h y (by simp)
    have := Val.deps_le (l := r) fun x hx => h x (by simp [hx])
    simp only [Val.deps]; omega
theorem Val.deps_take_le (l : List Val) (k : Nat) : Val.deps (l.take k) ≤ Val.deps l := Val.deps_le fun _ hx => Val.deps_mem (List.mem_of_mem_take hx)
theorem Val.dep_few : ∀ (n : Nat) (v : Val) (d : Nat), SizeOf.sizeOf v ≤ n → v.few d = true → v.dep + d ≤ 61 + 1
  | 0, v, _, h, _ => by cases v; simp at h
  | n + 1, .mk k bo i t ut ui items names, d, h, hf => by
    simp only [Val.few, Bool.and_eq_true, Bool.not_eq_true', Bool.or_eq_false_iff, decide_eq_false_iff_not] at hf
    obtain ⟨⟨⟨h1, h2⟩, h3⟩, h4⟩ := hf
    have := Val.deps_le (l := items) (n := 61 - d) fun x hx => by
      have h5 := (Val.fews_iff _ items).1 h4 x hx
      have := Val.dep_few n x (d + 1) (by have := List.sizeOf_lt_of_mem hx; simp at h; omega) (by simpa using h5)
      omega
    simp only [Val.dep]
    split <;> omega
theorem Val.dep_le {v : Val} (h : v.few 0 = true) : v.dep ≤ 62 := by
  have := Val.dep_few _ v 0 (Nat.le_refl _) (by simpa using h)
  omega
theorem Val.dep_pos (v : Val) : 1 ≤ v.dep := by cases v; simp only [Val.dep]; split <;> omega

theorem Val.size_get {l : List Val} {i : Nat} {x : Val} (h : l[i]? = some x) : SizeOf.sizeOf x < SizeOf.sizeOf l := List.sizeOf_lt_of_mem (List.mem_of_getElem? h)

/-- some number -/
def SomeInt (P : Int → Prop) (w : World) (e : Ending) (w' : World) : Prop := ∃ n : Int, P n ∧ e = .returned (.int .i64 n) ∧ Ext w w'

set_option maxRecDepth 100000 in
set_option maxHeartbeats 400000 in
theorem few_ok03 (n : Nat) : ∀ (e : Val) (deep : Int) (S : Nat → Prop) (w : World) (cs : List Value), SizeOf.sizeOf e ≤ n → 0 ≤ deep → deep ≤ 100 → (∀ b, S b → b < w.heap.size) → Val.At S w e cs →
    Calls Try.prog 16 #[.agg cs.toArray, .int .i64 deep] w fun en w' => en = .returned (.bool (e.few deep)) ∧ Ext w w' := by
  induction n with
  | zero => intro e; cases e; simp
  | succ n ih =>
    intro e deep S w cs hn h0 h1 hS h
    cases e with
    | mk k bo i t ut ui items names =>
    unfold Val.At at h
    obtain ⟨A, cap, nv, rfl, _, ⟨hb2, hb4, hb5⟩, hitems, A2, cap2, rfl, hb3⟩ := h
    have hfew : Val.few (.mk k bo i t ut ui items names) deep = (!(decide (20 < items.length) || decide (20 < names.length) || decide (60 < deep)) && Val.fews items (deep + 1)) := by rw [Val.few]
    have Hf := Lib.hid hfew
    have Hk := Lib.hid hitems
    have HS := Lib.hid hS
    have Hn := Lib.hid hn
    have IH := Lib.hid ih
    rw [maxLen_eq] at hb5
    rw [LIM_eq] at hb2
    clear hitems hb3 hS hn ih hfew
    go_enter Try.func16, Try.ntmps16
    go_wp2_with fail
    · go_ret
      exact ⟨ret_bool (by rw [Hf.out]; simp; intro _ _; omega), (Ext.refl w).alloc _⟩
    · go_loopw [5] (fun i' wr => ∃ j : Nat, j ≤ items.length ∧ i' = .int .i64 j ∧ wr.heap[w.heap.size]? = some (.cells #[.int .i64 k, .bool bo, .int .i64 i, .string t, .string ut, .string ui, .slice A items.length cap, .slice A2 names.length cap2] 27 (0, 0)) ∧ Ext w wr ∧
            Hid (∀ i x, i < j → items[i]? = some x → x.few (deep + 1) = true)) (fun i' _ => items.length - (intOf i').toNat)
      case atStart => exact ⟨0, Nat.zero_le _, rfl, heap_alloc_new _ _, (Ext.refl w).alloc _, fun _ _ h => by omega⟩
      case round =>
        obtain ⟨j, hk, rfl, hbox, hext, Hall⟩ := hrel
        have c7 := cell_of_row _ _ 6 _ _ _ hbox
        simp at c7
        have HX := Lib.hid hext
        have HB := Lib.hid hbox
        clear hext hbox
        by_cases hlt : j < items.length
        · obtain ⟨b, o, rfl, hSb, hrow⟩ := Hk.out (by omega)
          obtain ⟨x, hx⟩ : ∃ x, items[j]? = some x := ⟨_, List.getElem?_eq_getElem hlt⟩
          obtain ⟨cs, hcl, hca, hxa⟩ := hrow.get hx
          have Hca := Lib.hid (hca.alike hSb (Alike.of_ext HX.out HS.out))
          have Hxa := Lib.hid (hxa.alike (Alike.of_ext HX.out HS.out))
          have Hx := Lib.hid hx
          have Hcl := Lib.hid hcl
          clear hx hxa hca hrow hcl hSb
          go_wp2_with (first | refine wpList_load_cells rfl 27 _ rfl b (o + j * 8) rfl Try.agg27 Try.size27 Hcl.out Hca.out ?_ | (go_at_call 16; refine (IH.out x (deep + 1) S _ cs (by have := Hn.out; have := Val.size_get Hx.out; simp at *; omega) (by omega) (by omega) (fun b hb => Nat.lt_of_lt_of_le (HS.out b hb) HX.out.size) Hxa.out).mono ?_; rintro e w' ⟨rfl, hx2⟩; have HX2 := Lib.hid hx2; clear hx2))
          · have hf : (!x.few (deep + 1)) = true := by assumption
            go_ret
            exact ⟨ret_bool (by rw [Hf.out, Val.fews_not Hx.out (by simpa using hf)]; simp), HX.out.trans HX2.out⟩
          · have hf : (!x.few (deep + 1)) = false := by assumption
            go_roundw
            case rel => exact ⟨j + 1, by omega, by go_num, (HX2.out.block _ (Blk_lt HB.out)).trans HB.out, HX.out.trans HX2.out, fun i y hi hy => by
              by_cases hik : i = j
              · subst hik; rw [Hx.out] at hy; cases hy; simpa using hf
              · exact Hall.out i y (by omega) hy⟩
            case measure => simp [intOf]; omega
        · go_wp2_with fail
          go_ret
          have hke : j = items.length := by omega
          exact ⟨ret_bool (by rw [Hf.out, Val.fews_of (fun i x hi => Hall.out i x (by omega))]; simp; omega), HX.out⟩
    · go_ret
      exact ⟨ret_bool (by rw [Hf.out]; simp; omega), (Ext.refl w).alloc _⟩
    · go_ret
      exact ⟨ret_bool (by rw [Hf.out]; simp; omega), (Ext.refl w).alloc _⟩
set_option maxRecDepth 100000 in
set_option maxHeartbeats 400000 in
theorem few_ok04 (n : Nat) : ∀ (e : Val) (deep : Int) (S : Nat → Prop) (w : World) (cs : List Value), SizeOf.sizeOf e ≤ n → 0 ≤ deep → deep ≤ 100 → (∀ b, S b → b < w.heap.size) → Val.At S w e cs →
    Calls Try.prog 30 #[.agg cs.toArray, .int .i64 deep] w fun en w' => en = .returned (.bool (e.few deep)) ∧ Ext w w' := by
  induction n with
  | zero => intro e; cases e; simp
  | succ n ih =>
    intro e deep S w cs hn h0 h1 hS h
    cases e with
    | mk k bo i t ut ui items names =>
    unfold Val.At at h
    obtain ⟨A, cap, nv, rfl, _, ⟨hb2, hb4, hb5⟩, hitems, A2, cap2, rfl, hb3⟩ := h
    have hfew : Val.few (.mk k bo i t ut ui items names) deep = (!(decide (20 < items.length) || decide (20 < names.length) || decide (60 < deep)) && Val.fews items (deep + 1)) := by rw [Val.few]
    have Hf := Lib.hid hfew
    have Hk := Lib.hid hitems
    have HS := Lib.hid hS
    have Hn := Lib.hid hn
    have IH := Lib.hid ih
    rw [maxLen_eq] at hb5
    rw [LIM_eq] at hb2
    clear hitems hb3 hS hn ih hfew
    go_enter Try.func30, Try.ntmps30
    go_wp2_with fail
    · go_ret
      exact ⟨ret_bool (by rw [Hf.out]; simp; intro _ _; omega), (Ext.refl w).alloc _⟩
    · go_loopw [5] (fun i' wr => ∃ j : Nat, j ≤ items.length ∧ i' = .int .i64 j ∧ wr.heap[w.heap.size]? = some (.cells #[.int .i64 k, .bool bo, .int .i64 i, .string t, .string ut, .string ui, .slice A items.length cap, .slice A2 names.length cap2] 27 (0, 0)) ∧ Ext w wr ∧
            Hid (∀ i x, i < j → items[i]? = some x → x.few (deep + 1) = true)) (fun i' _ => items.length - (intOf i').toNat)
      case atStart => exact ⟨0, Nat.zero_le _, rfl, heap_alloc_new _ _, (Ext.refl w).alloc _, fun _ _ h => by omega⟩
      case round =>
        obtain ⟨j, hk, rfl, hbox, hext, Hall⟩ := hrel
        have c7 := cell_of_row _ _ 6 _ _ _ hbox
        simp at c7
        have HX := Lib.hid hext
        have HB := Lib.hid hbox
        clear hext hbox
        by_cases hlt : j < items.length
        · obtain ⟨b, o, rfl, hSb, hrow⟩ := Hk.out (by omega)
          obtain ⟨x, hx⟩ : ∃ x, items[j]? = some x := ⟨_, List.getElem?_eq_getElem hlt⟩
          obtain ⟨cs, hcl, hca, hxa⟩ := hrow.get hx
          have Hca := Lib.hid (hca.alike hSb (Alike.of_ext HX.out HS.out))
          have Hxa := Lib.hid (hxa.alike (Alike.of_ext HX.out HS.out))
          have Hx := Lib.hid hx
          have Hcl := Lib.hid hcl
          clear hx hxa hca hrow hcl hSb
          go_wp2_with (first | refine wpList_load_cells rfl 27 _ rfl b (o + j * 8) rfl Try.agg27 Try.size27 Hcl.out Hca.out ?_ | (go_at_call 30; refine (IH.out x (deep + 1) S _ cs (by have := Hn.out; have := Val.size_get Hx.out; simp at *; omega) (by omega) (by omega) (fun b hb => Nat.lt_of_lt_of_le (HS.out b hb) HX.out.size) Hxa.out).mono ?_; rintro e w' ⟨rfl, hx2⟩; have HX2 := Lib.hid hx2; clear hx2))
          · have hf : (!x.few (deep + 1)) = true := by assumption
            go_ret
            exact ⟨ret_bool (by rw [Hf.out, Val.fews_not Hx.out (by simpa using hf)]; simp), HX.out.trans HX2.out⟩
          · have hf : (!x.few (deep + 1)) = false := by assumption
            go_roundw
            case rel => exact ⟨j + 1, by omega, by go_num, (HX2.out.block _ (Blk_lt HB.out)).trans HB.out, HX.out.trans HX2.out, fun i y hi hy => by
              by_cases hik : i = j
              · subst hik; rw [Hx.out] at hy; cases hy; simpa using hf
              · exact Hall.out i y (by omega) hy⟩
            case measure => simp [intOf]; omega
        · go_wp2_with fail
          go_ret
          have hke : j = items.length := by omega
          exact ⟨ret_bool (by rw [Hf.out, Val.fews_of (fun i x hi => Hall.out i x (by omega))]; simp; omega), HX.out⟩
    · go_ret
      exact ⟨ret_bool (by rw [Hf.out]; simp; omega), (Ext.refl w).alloc _⟩
    · go_ret
      exact ⟨ret_bool (by rw [Hf.out]; simp; omega), (Ext.refl w).alloc _⟩
set_option maxRecDepth 100000 in
set_option maxHeartbeats 400000 in
theorem size_ok03 (n : Nat) : ∀ (e : Val) (S : Nat → Prop) (w : World) (cs : List Value), SizeOf.sizeOf e ≤ n → (∀ b, S b → b < w.heap.size) → Val.At S w e cs →
    Calls Try.prog 17 #[.agg cs.toArray] w (SomeInt (fun _ => True) w) := by
  induction n with
  | zero => intro e; cases e; simp
  | succ n ih =>
    intro e S w cs hn hS h
    cases e with
    | mk k bo i t ut ui items names =>
    unfold Val.At at h
    obtain ⟨A, cap, nv, rfl, _, ⟨hb2, hb4, hb5⟩, hitems, A2, cap2, rfl, hb3⟩ := h
    have Hk := Lib.hid hitems
    have HS := Lib.hid hS
    have Hn := Lib.hid hn
    have IH := Lib.hid ih
    rw [maxLen_eq] at hb5
    rw [LIM_eq] at hb2
    clear hitems hb3 hS hn ih
    go_enter Try.func17, Try.ntmps17
    go_wp2_with fail
    go_loopw [3, 4] (fun m i' wr => ∃ (j : Nat) (z : Int), j ≤ items.length ∧ i' = .int .i64 j ∧ m = .int .i64 z ∧ wr.heap[w.heap.size]? = some (.cells #[.int .i64 k, .bool bo, .int .i64 i, .string t, .string ut, .string ui, .slice A items.length cap, .slice A2 names.length cap2] 27 (0, 0)) ∧ Ext w wr)
      (fun _ i' _ => items.length - (intOf i').toNat)
    case atStart => exact ⟨0, 1, Nat.zero_le _, rfl, rfl, heap_alloc_new _ _, (Ext.refl w).alloc _⟩
    case round =>
      obtain ⟨j, z, hk, rfl, rfl, hbox, hext⟩ := hrel
      have c7 := cell_of_row _ _ 6 _ _ _ hbox
      simp at c7
      have HX := Lib.hid hext
      have HB := Lib.hid hbox
      clear hext hbox
      by_cases hlt : j < items.length
      · obtain ⟨b, o, rfl, hSb, hrow⟩ := Hk.out (by omega)
        obtain ⟨x, hx⟩ : ∃ x, items[j]? = some x := ⟨_, List.getElem?_eq_getElem hlt⟩
        obtain ⟨cs, hcl, hca, hxa⟩ := hrow.get hx
        have Hca := Lib.hid (hca.alike hSb (Alike.of_ext HX.out HS.out))
        have Hxa := Lib.hid (hxa.alike (Alike.of_ext HX.out HS.out))
        have Hx := Lib.hid hx
        have Hcl := Lib.hid hcl
        clear hx hxa hca hrow hcl hSb
        by_cases hz : z < 1000
        · go_wp2_with (first | refine wpList_load_cells rfl 27 _ rfl b (o + j * 8) rfl Try.agg27 Try.size27 Hcl.out Hca.out ?_ | (go_at_call 17; refine (IH.out x S _ cs (by have := Hn.out; have := Val.size_get Hx.out; simp at *; omega) (fun b hb => Nat.lt_of_lt_of_le (HS.out b hb) HX.out.size) Hxa.out).mono ?_; rintro e w' ⟨q, _, rfl, hx2⟩; have HX2 := Lib.hid hx2; clear hx2))
          go_roundw
          case rel => exact ⟨j + 1, _, by omega, by go_num, rfl, (HX2.out.block _ (Blk_lt HB.out)).trans HB.out, HX.out.trans HX2.out⟩
          case measure => simp [intOf]; omega
        · go_wp2_with fail
          go_ret
          exact ⟨_, trivial, rfl, HX.out⟩
      · go_wp2_with fail
        go_ret
        exact ⟨_, trivial, rfl, HX.out⟩
set_option maxRecDepth 100000 in
set_option maxHeartbeats 400000 in
theorem size_ok04 (n : Nat) : ∀ (e : Val) (S : Nat → Prop) (w : World) (cs : List Value), SizeOf.sizeOf e ≤ n → (∀ b, S b → b < w.heap.size) → Val.At S w e cs →
    Calls Try.prog 31 #[.agg cs.toArray] w (SomeInt (fun _ => True) w) := by
  induction n with
  | zero => intro e; cases e; simp
  | succ n ih =>
    intro e S w cs hn hS h
    cases e with
    | mk k bo i t ut ui items names =>
    unfold Val.At at h
    obtain ⟨A, cap, nv, rfl, _, ⟨hb2, hb4, hb5⟩, hitems, A2, cap2, rfl, hb3⟩ := h
    have Hk := Lib.hid hitems
    have HS := Lib.hid hS
    have Hn := Lib.hid hn
    have IH := Lib.hid ih
    rw [maxLen_eq] at hb5
    rw [LIM_eq] at hb2
    clear hitems hb3 hS hn ih
    go_enter Try.func31, Try.ntmps31
    go_wp2_with fail
    go_loopw [3, 4] (fun m i' wr => ∃ (j : Nat) (z : Int), j ≤ items.length ∧ i' = .int .i64 j ∧ m = .int .i64 z ∧ wr.heap[w.heap.size]? = some (.cells #[.int .i64 k, .bool bo, .int .i64 i, .string t, .string ut, .string ui, .slice A items.length cap, .slice A2 names.length cap2] 27 (0, 0)) ∧ Ext w wr)
      (fun _ i' _ => items.length - (intOf i').toNat)
    case atStart => exact ⟨0, 1, Nat.zero_le _, rfl, rfl, heap_alloc_new _ _, (Ext.refl w).alloc _⟩
    case round =>
      obtain ⟨j, z, hk, rfl, rfl, hbox, hext⟩ := hrel
      have c7 := cell_of_row _ _ 6 _ _ _ hbox
      simp at c7
      have HX := Lib.hid hext
      have HB := Lib.hid hbox
      clear hext hbox
      by_cases hlt : j < items.length
      · obtain ⟨b, o, rfl, hSb, hrow⟩ := Hk.out (by omega)
        obtain ⟨x, hx⟩ : ∃ x, items[j]? = some x := ⟨_, List.getElem?_eq_getElem hlt⟩
        obtain ⟨cs, hcl, hca, hxa⟩ := hrow.get hx
        have Hca := Lib.hid (hca.alike hSb (Alike.of_ext HX.out HS.out))
        have Hxa := Lib.hid (hxa.alike (Alike.of_ext HX.out HS.out))
        have Hx := Lib.hid hx
        have Hcl := Lib.hid hcl
        clear hx hxa hca hrow hcl hSb
        by_cases hz : z < 1000
        · go_wp2_with (first | refine wpList_load_cells rfl 27 _ rfl b (o + j * 8) rfl Try.agg27 Try.size27 Hcl.out Hca.out ?_ | (go_at_call 31; refine (IH.out x S _ cs (by have := Hn.out; have := Val.size_get Hx.out; simp at *; omega) (fun b hb => Nat.lt_of_lt_of_le (HS.out b hb) HX.out.size) Hxa.out).mono ?_; rintro e w' ⟨q, _, rfl, hx2⟩; have HX2 := Lib.hid hx2; clear hx2))
          go_roundw
          case rel => exact ⟨j + 1, _, by omega, by go_num, rfl, (HX2.out.block _ (Blk_lt HB.out)).trans HB.out, HX.out.trans HX2.out⟩
          case measure => simp [intOf]; omega
        · go_wp2_with fail
          go_ret
          exact ⟨_, trivial, rfl, HX.out⟩
      · go_wp2_with fail
        go_ret
        exact ⟨_, trivial, rfl, HX.out⟩
set_option maxRecDepth 100000 in
set_option maxHeartbeats 400000 in
theorem depth_okR (n : Nat) : ∀ (e : Val) (S : Nat → Prop) (w : World) (cs : List Value), SizeOf.sizeOf e ≤ n → e.dep ≤ 1000000 → (∀ b, S b → b < w.heap.size) → Val.At S w e cs →
    Calls Try.prog 40 #[.agg cs.toArray] w fun en w' => en = .returned (.int .i64 e.dep) ∧ Ext w w' := by
  induction n with
  | zero => intro e; cases e; simp
  | succ n ih =>
    intro e S w cs hn hd hS h
    cases e with
    | mk k bo i t ut ui items names =>
    unfold Val.At at h
    obtain ⟨A, cap, nv, rfl, _, ⟨hb2, hb4, hb5⟩, hitems, A2, cap2, rfl, hb3⟩ := h
    have hdep : (Val.mk k bo i t ut ui items names).dep = if k = 5 ∨ k = 6 then Val.deps items + 1 else 1 := by rw [Val.dep]
    have Hk := Lib.hid hitems
    have HS := Lib.hid hS
    have Hn := Lib.hid hn
    have IH := Lib.hid ih
    rw [maxLen_eq] at hb5
    rw [LIM_eq] at hb2
    clear hitems hb3 hS hn ih
    by_cases hk : k = 5 ∨ k = 6
    · rw [if_pos hk] at hdep
      rw [hdep] at hd
      have Hd := Lib.hid hdep
      have HD := Lib.hid hd
      clear hdep hd
      rcases hk with rfl | rfl
      all_goals
        go_enter Try.func40, Try.ntmps40
        go_wp2_with fail
        go_loopw [3, 4] (fun m i' wr => ∃ (j : Nat), j ≤ items.length ∧ i' = .int .i64 j ∧ m = .int .i64 (Val.deps (items.take j)) ∧ (∃ kk : Int, wr.heap[w.heap.size]? = some (.cells #[.int .i64 kk, .bool bo, .int .i64 i, .string t, .string ut, .string ui, .slice A items.length cap, .slice A2 names.length cap2] 27 (0, 0))) ∧ Ext w wr)
          (fun _ i' _ => items.length - (intOf i').toNat)
        case atStart => exact ⟨0, Nat.zero_le _, rfl, by simp [Val.deps], ⟨_, heap_alloc_new _ _⟩, (Ext.refl w).alloc _⟩
        case round =>
          obtain ⟨j, hk, rfl, rfl, ⟨kk, hbox⟩, hext⟩ := hrel
          have c7 := cell_of_row _ _ 6 _ _ _ hbox
          simp at c7
          have HX := Lib.hid hext
          have HB := Lib.hid hbox
          clear hext hbox
          have hdj := Val.deps_take_le items j
          have hdn : Val.deps (items.take j) ≤ 1000000 := by have := HD.out; omega
          by_cases hlt : j < items.length
          · obtain ⟨b, o, rfl, hSb, hrow⟩ := Hk.out (by omega)
            obtain ⟨x, hx⟩ : ∃ x, items[j]? = some x := ⟨_, List.getElem?_eq_getElem hlt⟩
            obtain ⟨cs, hcl, hca, hxa⟩ := hrow.get hx
            have Hca := Lib.hid (hca.alike hSb (Alike.of_ext HX.out HS.out))
            have Hxa := Lib.hid (hxa.alike (Alike.of_ext HX.out HS.out))
            have Hx := Lib.hid hx
            have Hcl := Lib.hid hcl
            have hxd : x.dep ≤ 1000000 := by have := HD.out; have := Val.deps_mem (List.mem_of_getElem? hx); omega
            have Ht := Lib.hid (Val.deps_take_succ hx)
            clear hx hxa hca hrow hcl hSb
            generalize hz : Val.deps (items.take j) = z at *
            have Hz := Lib.hid hz
            clear hz hdj
            go_wp2_with (first | refine wpList_load_cells rfl 27 _ rfl b (o + j * 8) rfl Try.agg27 Try.size27 Hcl.out Hca.out ?_ | (go_at_call 40; refine (IH.out x S _ cs (by have := Hn.out; have := Val.size_get Hx.out; simp at *; omega) (by omega) (fun b hb => Nat.lt_of_lt_of_le (HS.out b hb) HX.out.size) Hxa.out).mono ?_; rintro e w' ⟨rfl, hx2⟩; have HX2 := Lib.hid hx2; clear hx2))
            · have hlt2 : z < x.dep := by assumption
              go_roundw
              case rel => exact ⟨j + 1, by omega, by go_num, by rw [Ht.out, Nat.max_eq_right (by omega)], ⟨_, (HX2.out.block _ (Blk_lt HB.out)).trans HB.out⟩, HX.out.trans HX2.out⟩
              case measure => simp [intOf]; omega
            · have hlt2 : ¬ z < x.dep := by assumption
              go_roundw
              case rel => exact ⟨j + 1, by omega, by go_num, by rw [Ht.out, Nat.max_eq_left (by omega)], ⟨_, (HX2.out.block _ (Blk_lt HB.out)).trans HB.out⟩, HX.out.trans HX2.out⟩
              case measure => simp [intOf]; omega
          · have hke : j = items.length := by omega
            subst hke
            rw [List.take_length] at hdn ⊢
            clear hdj
            generalize hz : Val.deps items = z at *
            clear hz
            go_wp2_with fail
            go_ret
            exact ⟨ret_int (by rw [Hd.out]; simp), HX.out⟩
    · rw [if_neg hk] at hdep
      have Hd := Lib.hid hdep
      clear hdep hd
      have e5 : (k != 5) = true := by simp; omega
      have e6 : (k != 6) = true := by simp; omega
      clear hk
      go_enter Try.func40, Try.ntmps40
      go_wp2_with fail
      go_ret
      exact ⟨ret_int (by rw [Hd.out]; rfl), (Ext.refl w).alloc _⟩
set_option maxRecDepth 100000 in
set_option maxHeartbeats 400000 in
theorem depth_okP (n : Nat) : ∀ (e : Val) (S : Nat → Prop) (w : World) (cs : List Value), SizeOf.sizeOf e ≤ n → e.dep ≤ 1000000 → (∀ b, S b → b < w.heap.size) → Val.At S w e cs →
    Calls Try.prog 27 #[.agg cs.toArray] w fun en w' => en = .returned (.int .i64 e.dep) ∧ Ext w w' := by
  induction n with
  | zero => intro e; cases e; simp
  | succ n ih =>
    intro e S w cs hn hd hS h
    cases e with
    | mk k bo i t ut ui items names =>
    unfold Val.At at h
    obtain ⟨A, cap, nv, rfl, _, ⟨hb2, hb4, hb5⟩, hitems, A2, cap2, rfl, hb3⟩ := h
    have hdep : (Val.mk k bo i t ut ui items names).dep = if k = 5 ∨ k = 6 then Val.deps items + 1 else 1 := by rw [Val.dep]
    have Hk := Lib.hid hitems
    have HS := Lib.hid hS
    have Hn := Lib.hid hn
    have IH := Lib.hid ih
    rw [maxLen_eq] at hb5
    rw [LIM_eq] at hb2
    clear hitems hb3 hS hn ih
    by_cases hk : k = 5 ∨ k = 6
    · rw [if_pos hk] at hdep
      rw [hdep] at hd
      have Hd := Lib.hid hdep
      have HD := Lib.hid hd
      clear hdep hd
      rcases hk with rfl | rfl
      all_goals
        go_enter Try.func27, Try.ntmps27
        go_wp2_with fail
        go_loopw [3, 17] (fun m i' wr => ∃ (j : Nat), j ≤ items.length ∧ i' = .int .i64 j ∧ m = .int .i64 (Val.deps (items.take j)) ∧ (∃ kk : Int, wr.heap[w.heap.size]? = some (.cells #[.int .i64 kk, .bool bo, .int .i64 i, .string t, .string ut, .string ui, .slice A items.length cap, .slice A2 names.length cap2] 27 (0, 0))) ∧ Ext w wr)
          (fun _ i' _ => items.length - (intOf i').toNat)
        case atStart => exact ⟨0, Nat.zero_le _, rfl, by simp [Val.deps], ⟨_, heap_alloc_new _ _⟩, (Ext.refl w).alloc _⟩
        case round =>
          obtain ⟨j, hk, rfl, rfl, ⟨kk, hbox⟩, hext⟩ := hrel
          have c7 := cell_of_row _ _ 6 _ _ _ hbox
          simp at c7
          have HX := Lib.hid hext
          have HB := Lib.hid hbox
          clear hext hbox
          have hdj := Val.deps_take_le items j
          have hdn : Val.deps (items.take j) ≤ 1000000 := by have := HD.out; omega
          by_cases hlt : j < items.length
          · obtain ⟨b, o, rfl, hSb, hrow⟩ := Hk.out (by omega)
            obtain ⟨x, hx⟩ : ∃ x, items[j]? = some x := ⟨_, List.getElem?_eq_getElem hlt⟩
            obtain ⟨cs, hcl, hca, hxa⟩ := hrow.get hx
            have Hca := Lib.hid (hca.alike hSb (Alike.of_ext HX.out HS.out))
            have Hxa := Lib.hid (hxa.alike (Alike.of_ext HX.out HS.out))
            have Hx := Lib.hid hx
            have Hcl := Lib.hid hcl
            have hxd : x.dep ≤ 1000000 := by have := HD.out; have := Val.deps_mem (List.mem_of_getElem? hx); omega
            have Ht := Lib.hid (Val.deps_take_succ hx)
            clear hx hxa hca hrow hcl hSb
            generalize hz : Val.deps (items.take j) = z at *
            have Hz := Lib.hid hz
            clear hz hdj
            obtain ⟨k1, b1, n1, t1, ut1, ui1, A1, l1, c1, A2, l2, c2, rfl⟩ := Hxa.out.shape
            go_wp2_with (first | refine wpList_load_cells rfl 27 _ rfl b (o + j * 8) rfl Try.agg27 Try.size27 Hcl.out Hca.out ?_ | (go_at_call 27; refine (IH.out x S _ [_, _, _, _, _, _, _, _] (by have := Hn.out; have := Val.size_get Hx.out; simp at *; omega) (by omega) (fun b hb => Nat.lt_of_lt_of_le (HS.out b hb) (HX.out.alloc _).size) (Hxa.out.alike (Alike.of_ext ((Ext.refl _).alloc _) (fun b hb => Nat.lt_of_lt_of_le (HS.out b hb) HX.out.size)))).mono ?_; rintro e w' ⟨rfl, hx2⟩; have HX2 := Lib.hid hx2; clear hx2))
            go_roundw
            case rel => exact ⟨j + 1, by omega, by go_num, by rw [Ht.out]; congr 1; split <;> omega, ⟨_, ((Ext.trans ((Ext.refl wr).alloc _) HX2.out).block _ (Blk_lt HB.out)).trans HB.out⟩, (HX.out.alloc _).trans HX2.out⟩
            case measure => simp [intOf]; omega
          · have hke : j = items.length := by omega
            subst hke
            rw [List.take_length] at hdn ⊢
            clear hdj
            generalize hz : Val.deps items = z at *
            clear hz
            go_wp2_with fail
            go_ret
            exact ⟨ret_int (by rw [Hd.out]; simp), HX.out⟩
    · rw [if_neg hk] at hdep
      have Hd := Lib.hid hdep
      clear hdep hd
      have e5 : (k != 5) = true := by simp; omega
      have e6 : (k != 6) = true := by simp; omega
      clear hk
      go_enter Try.func27, Try.ntmps27
      go_wp2_with fail
      go_ret
      exact ⟨ret_int (by rw [Hd.out]; rfl), (Ext.refl w).alloc _⟩

end Go.Proofs.Ytpkgkabcikmopaa
