/-
  The document's searches by name: in a row of attributes, of texts, in a schema. The conditions: the rows lie in memory as they should.
-/
import Derived.Test.YtjllolagcdjlnaaGreatSchM
import Derived.Test.YtjllolagcdjlnaaGreatConVM
namespace Go.Proofs.YtjllolagcdjlnaaGreat
open Go.RowKit

set_option maxRecDepth 100000 in
set_option maxHeartbeats 400000 in
theorem has_ok13 (S : Nat → Prop) (l : List ByteArray) (v : Value) (s : ByteArray) (w : World) (hl : strR.RowsAt S w l v) :
    Calls Tryz.prog 95 #[v, .string s] w fun e w' => e = .returned (.bool (l.any fun x => decide (x = s))) ∧ w = w' := by
  obtain ⟨A, cap, rfl, hl0, hl1, hl2, hls, hlr⟩ := rows_strsAt hl
  rw [LIM_eq] at hl0
  rw [maxLen_eq] at hl2
  have HL := Lib.hid hlr
  have HD : Hid ((l.any fun x => decide (x = s)) = l.any fun x => x.toList == s.toList) := Lib.hid (by simp only [toList_beq])
  generalize (l.any fun x => decide (x = s)) = res at *
  clear hl hlr hls
  go_enter Tryz.func95, Tryz.ntmps95
  go_wp2_with fail
  go_loop [5] (fun i => ∃ k : Nat, k ≤ l.length ∧ i = .int .i64 k ∧ Hid (∀ i x, i < k → l[i]? = some x → (x.toList == s.toList) = false)) (fun i => l.length - (intOf i).toNat)
  case atStart => exact ⟨0, Nat.zero_le _, rfl, fun _ _ h => by omega⟩
  case round =>
    obtain ⟨k, hk, rfl, Hall⟩ := hrel
    by_cases hlt : k < l.length
    · obtain ⟨b, o, rfl, hSb, hrow⟩ := HL.out (by omega)
      obtain ⟨x, hx⟩ : ∃ x, l[k]? = some x := ⟨_, List.getElem?_eq_getElem hlt⟩
      have hcx := hrow k (.string x) (by simp [hx])
      have Hx := Lib.hid hx
      clear hx hrow hSb
      go_wp2_with fail
      · have he : (x.toList == s.toList) = true := by assumption
        go_ret
        exact ⟨ret_bool (by rw [HD.out]; exact (List.any_eq_true.2 ⟨x, List.mem_of_getElem? Hx.out, he⟩).symm), rfl⟩
      · have he : (x.toList == s.toList) = false := by assumption
        go_round
        case rel => exact ⟨k + 1, by omega, by go_num, fun i p hi hp => by
          by_cases hik : i = k
          · subst hik; rw [Hx.out] at hp; cases hp; exact he
          · exact Hall.out i p (by omega) hp⟩
        case measure => simp [intOf]; omega
    · go_wp2_with fail
      go_ret
      have hke : k = l.length := by omega
      subst hke
      exact ⟨ret_bool (by
        rw [HD.out, eq_comm, List.any_eq_false]
        intro x hx
        obtain ⟨i, hi⟩ := List.mem_iff_getElem?.1 hx
        rw [Hall.out i x (List.getElem?_eq_some_iff.1 hi).1 hi]; simp), rfl⟩
set_option maxRecDepth 100000 in
set_option maxHeartbeats 400000 in
theorem has_ok12 (S : Nat → Prop) (l : List ByteArray) (v : Value) (s : ByteArray) (w : World) (hl : strR.RowsAt S w l v) :
    Calls Tryz.prog 119 #[v, .string s] w fun e w' => e = .returned (.bool (l.any fun x => decide (x = s))) ∧ w = w' := by
  obtain ⟨A, cap, rfl, hl0, hl1, hl2, hls, hlr⟩ := rows_strsAt hl
  rw [LIM_eq] at hl0
  rw [maxLen_eq] at hl2
  have HL := Lib.hid hlr
  have HD : Hid ((l.any fun x => decide (x = s)) = l.any fun x => x.toList == s.toList) := Lib.hid (by simp only [toList_beq])
  generalize (l.any fun x => decide (x = s)) = res at *
  clear hl hlr hls
  go_enter Tryz.func119, Tryz.ntmps119
  go_wp2_with fail
  go_loop [5] (fun i => ∃ k : Nat, k ≤ l.length ∧ i = .int .i64 k ∧ Hid (∀ i x, i < k → l[i]? = some x → (x.toList == s.toList) = false)) (fun i => l.length - (intOf i).toNat)
  case atStart => exact ⟨0, Nat.zero_le _, rfl, fun _ _ h => by omega⟩
  case round =>
    obtain ⟨k, hk, rfl, Hall⟩ := hrel
    by_cases hlt : k < l.length
    · obtain ⟨b, o, rfl, hSb, hrow⟩ := HL.out (by omega)
      obtain ⟨x, hx⟩ : ∃ x, l[k]? = some x := ⟨_, List.getElem?_eq_getElem hlt⟩
      have hcx := hrow k (.string x) (by simp [hx])
      have Hx := Lib.hid hx
      clear hx hrow hSb
      go_wp2_with fail
      · have he : (x.toList == s.toList) = true := by assumption
        go_ret
        exact ⟨ret_bool (by rw [HD.out]; exact (List.any_eq_true.2 ⟨x, List.mem_of_getElem? Hx.out, he⟩).symm), rfl⟩
      · have he : (x.toList == s.toList) = false := by assumption
        go_round
        case rel => exact ⟨k + 1, by omega, by go_num, fun i p hi hp => by
          by_cases hik : i = k
          · subst hik; rw [Hx.out] at hp; cases hp; exact he
          · exact Hall.out i p (by omega) hp⟩
        case measure => simp [intOf]; omega
    · go_wp2_with fail
      go_ret
      have hke : k = l.length := by omega
      subst hke
      exact ⟨ret_bool (by
        rw [HD.out, eq_comm, List.any_eq_false]
        intro x hx
        obtain ⟨i, hi⟩ := List.mem_iff_getElem?.1 hx
        rw [Hall.out i x (List.getElem?_eq_some_iff.1 hi).1 hi]; simp), rfl⟩

set_option maxRecDepth 100000 in
set_option maxHeartbeats 400000 in
theorem attrR_ok (S : Nat → Prop) (l : List Atr) (v : Value) (s : ByteArray) (w : World) (hl : atrR.RowsAt S w l v) :
    Calls Tryz.prog 81 #[v, .string s] w fun e w' => e = .returned (.int .i64 (pos (atrIdx l s))) ∧ w = w' := by
  obtain ⟨A, cap, rfl, ⟨hl0, hl1, hl2⟩, hlr⟩ := hl
  rw [LIM_eq] at hl0
  rw [maxLen_eq] at hl2
  have HL := Lib.hid hlr
  clear hlr
  go_enter Tryz.func81, Tryz.ntmps81
  go_wp2_with fail
  go_loop [5] (fun i => ∃ k : Nat, k ≤ l.length ∧ i = .int .i64 k ∧ Hid (∀ i x, i < k → l[i]? = some x → (x.name.toList == s.toList) = false)) (fun i => l.length - (intOf i).toNat)
  case atStart => exact ⟨0, Nat.zero_le _, rfl, fun _ _ h => by omega⟩
  case round =>
    obtain ⟨k, hk, rfl, Hall⟩ := hrel
    by_cases hlt : k < l.length
    · obtain ⟨b, o, rfl, hSb, hrow⟩ := HL.out (by omega)
      obtain ⟨x, hx⟩ : ∃ x, l[k]? = some x := ⟨_, List.getElem?_eq_getElem hlt⟩
      obtain ⟨cs, hca, hxa⟩ := hrow k x hx
      obtain ⟨_, _, _, _, _, _, rfl, _⟩ := Atr.At.shape hxa
      have hcx : w.cell? ⟨b, o + k * 6, none⟩ = some (.string x.name) := hca 0 _ rfl
      have Hx := Lib.hid hx
      clear hx hrow hSb hca hxa
      go_wp2_with fail
      · have he : (x.name.toList == s.toList) = true := by assumption
        go_ret
        exact ⟨ret_int (by rw [show atrIdx l s = some k from fidx_some (p := fun a : Atr => a.name.toList == s.toList) Hx.out he Hall.out]; rfl), rfl⟩
      · have he : (x.name.toList == s.toList) = false := by assumption
        go_round
        case rel => exact ⟨k + 1, by omega, by go_num, fun i p hi hp => by
          by_cases hik : i = k
          · subst hik; rw [Hx.out] at hp; cases hp; exact he
          · exact Hall.out i p (by omega) hp⟩
        case measure => simp [intOf]; omega
    · go_wp2_with fail
      go_ret
      have hke : k = l.length := by omega
      subst hke
      exact ⟨ret_int (by rw [show atrIdx l s = none from fidx_none (p := fun a : Atr => a.name.toList == s.toList) Hall.out]; rfl), rfl⟩

theorem sty_name {S : Nat → Prop} {w : World} {x : EntT} {cs : List Value} (h : entTR.At S w x cs) : ∃ r, ∃ _ : True, cs = .string x.name :: r ∧ True := by
  obtain ⟨v1, v2, rfl, _⟩ := h; exact ⟨_, trivial, rfl, trivial⟩
theorem sac_name {S : Nat → Prop} {w : World} {x : ActT} {cs : List Value} (h : actTR.At S w x cs) : ∃ r, ∃ _ : True, cs = .string x.id :: r ∧ True := by
  obtain ⟨v1, v2, v3, v4, rfl, _⟩ := h; exact ⟨_, trivial, rfl, trivial⟩

set_option maxRecDepth 100000 in
set_option maxHeartbeats 400000 in
theorem styR_ok (S : Nat → Prop) (s : Sch) (ss : List Value) (nm : ByteArray) (w : World) (hS : ∀ b, S b → b < w.heap.size) (hs : Sch.At S w s ss) :
    Calls Tryz.prog 83 #[.agg ss.toArray, .string nm] w fun e w' => e = .returned (.int .i64 (pos (styIdx s.types nm))) ∧ Ext w w' := by
  obtain ⟨v1, v2, rfl, h1, h2⟩ := hs
  obtain ⟨A1, cap1, rfl, ⟨hl0, hl1, hl2⟩, hlr⟩ := h1
  obtain ⟨A2, cap2, rfl, ⟨_, _, hm2⟩, _⟩ := h2
  rw [LIM_eq] at hl0
  rw [maxLen_eq] at hl2 hm2
  generalize s.types = l at hl0 hl1 hlr ⊢
  generalize s.acts.length = n2
  have HL := Lib.hid hlr
  have HS := Lib.hid hS
  clear hlr hS
  have HX := Lib.hid ((Ext.refl w).alloc (.cells #[Value.slice A1 l.length cap1, .slice A2 n2 cap2] 70))
  go_enter Tryz.func83, Tryz.ntmps83
  go_wp2_with fail
  go_loop [5] (fun i => ∃ k : Nat, k ≤ l.length ∧ i = .int .i64 k ∧ Hid (∀ i x, i < k → l[i]? = some x → (x.name.toList == nm.toList) = false)) (fun i => l.length - (intOf i).toNat)
  case atStart => exact ⟨0, Nat.zero_le _, rfl, fun _ _ h => by omega⟩
  case round =>
    obtain ⟨k, hk, rfl, Hall⟩ := hrel
    by_cases hlt : k < l.length
    · obtain ⟨b, o, rfl, hSb, hrow⟩ := HL.out (by omega)
      obtain ⟨x, hx⟩ : ∃ x, l[k]? = some x := ⟨_, List.getElem?_eq_getElem hlt⟩
      obtain ⟨cs, hca, hxa⟩ := hrow k x hx
      have hc0 : cs[0]? = some (.string x.name) := by obtain ⟨_, _, rfl, _⟩ := sty_name hxa; rfl
      have hcx := (hca.alike hSb (Alike.of_ext HX.out HS.out)) 0 _ hc0
      have hcx : (w.alloc (.cells #[Value.slice (some ⟨b, o, none⟩) l.length cap1, .slice A2 n2 cap2] 70)).cell? ⟨b, o + k * 3, none⟩ = some (.string x.name) := hcx
      have Hx := Lib.hid hx
      clear hx hrow hSb hca hxa hc0
      go_wp2_with fail
      · have he : (x.name.toList == nm.toList) = true := by assumption
        go_ret
        exact ⟨ret_int (by rw [show styIdx l nm = some k from fidx_some (p := fun a : EntT => a.name.toList == nm.toList) Hx.out he Hall.out]; rfl), HX.out⟩
      · have he : (x.name.toList == nm.toList) = false := by assumption
        go_round
        case rel => exact ⟨k + 1, by omega, by go_num, fun i p hi hp => by
          by_cases hik : i = k
          · subst hik; rw [Hx.out] at hp; cases hp; exact he
          · exact Hall.out i p (by omega) hp⟩
        case measure => simp [intOf]; omega
    · go_wp2_with fail
      go_ret
      have hke : k = l.length := by omega
      subst hke
      exact ⟨ret_int (by rw [show styIdx l nm = none from fidx_none (p := fun a : EntT => a.name.toList == nm.toList) Hall.out]; rfl), HX.out⟩

set_option maxRecDepth 100000 in
set_option maxHeartbeats 400000 in
theorem sacR_ok (S : Nat → Prop) (s : Sch) (ss : List Value) (nm : ByteArray) (w : World) (hS : ∀ b, S b → b < w.heap.size) (hs : Sch.At S w s ss) :
    Calls Tryz.prog 84 #[.agg ss.toArray, .string nm] w fun e w' => e = .returned (.int .i64 (pos (sacIdx s.acts nm))) ∧ Ext w w' := by
  obtain ⟨v1, v2, rfl, h1, h2⟩ := hs
  obtain ⟨A1, cap1, rfl, ⟨hl0, hl1, hl2⟩, hlr⟩ := h2
  obtain ⟨A2, cap2, rfl, ⟨_, _, hm2⟩, _⟩ := h1
  rw [LIM_eq] at hl0
  rw [maxLen_eq] at hl2 hm2
  generalize s.acts = l at hl0 hl1 hlr ⊢
  generalize s.types.length = n2
  have HL := Lib.hid hlr
  have HS := Lib.hid hS
  clear hlr hS
  have HX := Lib.hid ((Ext.refl w).alloc (.cells #[Value.slice A2 n2 cap2, .slice A1 l.length cap1] 70))
  go_enter Tryz.func84, Tryz.ntmps84
  go_wp2_with fail
  go_loop [5] (fun i => ∃ k : Nat, k ≤ l.length ∧ i = .int .i64 k ∧ Hid (∀ i x, i < k → l[i]? = some x → (x.id.toList == nm.toList) = false)) (fun i => l.length - (intOf i).toNat)
  case atStart => exact ⟨0, Nat.zero_le _, rfl, fun _ _ h => by omega⟩
  case round =>
    obtain ⟨k, hk, rfl, Hall⟩ := hrel
    by_cases hlt : k < l.length
    · obtain ⟨b, o, rfl, hSb, hrow⟩ := HL.out (by omega)
      obtain ⟨x, hx⟩ : ∃ x, l[k]? = some x := ⟨_, List.getElem?_eq_getElem hlt⟩
      obtain ⟨cs, hca, hxa⟩ := hrow k x hx
      have hc0 : cs[0]? = some (.string x.id) := by obtain ⟨_, _, rfl, _⟩ := sac_name hxa; rfl
      have hcx := (hca.alike hSb (Alike.of_ext HX.out HS.out)) 0 _ hc0
      have hcx : (w.alloc (.cells #[Value.slice A2 n2 cap2, .slice (some ⟨b, o, none⟩) l.length cap1] 70)).cell? ⟨b, o + k * 5, none⟩ = some (.string x.id) := hcx
      have Hx := Lib.hid hx
      clear hx hrow hSb hca hxa hc0
      go_wp2_with fail
      · have he : (x.id.toList == nm.toList) = true := by assumption
        go_ret
        exact ⟨ret_int (by rw [show sacIdx l nm = some k from fidx_some (p := fun a : ActT => a.id.toList == nm.toList) Hx.out he Hall.out]; rfl), HX.out⟩
      · have he : (x.id.toList == nm.toList) = false := by assumption
        go_round
        case rel => exact ⟨k + 1, by omega, by go_num, fun i p hi hp => by
          by_cases hik : i = k
          · subst hik; rw [Hx.out] at hp; cases hp; exact he
          · exact Hall.out i p (by omega) hp⟩
        case measure => simp [intOf]; omega
    · go_wp2_with fail
      go_ret
      have hke : k = l.length := by omega
      subst hke
      exact ⟨ret_int (by rw [show sacIdx l nm = none from fidx_none (p := fun a : ActT => a.id.toList == nm.toList) Hall.out]; rfl), HX.out⟩
end Go.Proofs.YtjllolagcdjlnaaGreat
