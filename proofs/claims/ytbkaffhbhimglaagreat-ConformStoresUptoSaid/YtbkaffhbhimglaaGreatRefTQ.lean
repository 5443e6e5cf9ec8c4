/-
  The document's searches by name: in a row of attributes, of texts, in a schema. The conditions: the rows lie in memory as they should.
-/
import Derived.Test.YtbkaffhbhimglaaGreatGh
namespace Go.Proofs.YtbkaffhbhimglaaGreat
open Go.RowKit
open Lib renaming hid → q_
set_option maxRecDepth 100000
set_option maxHeartbeats 400000
theorem has_ok13 (S : Nat → Prop) (l : List ByteArray) (v : Value) (s : ByteArray) (w : World) (hl : strR.RowsAt S w l v) :
  Calls Tryz.prog 35 #[v, .string s] w fun e w' => e = .returned (.bool (l.any fun x => decide (x = s))) ∧ w = w' := by
 obtain ⟨A, cap, rfl, hl0, hl1, hl2, hls, hlr⟩ := zds hl
 rw [zak] at hl0
 rw [zab] at hl2
 have HL := q_ hlr
 have HD : Hid ((l.any fun x => decide (x = s)) = l.any fun x => x.toList == s.toList) := q_ (by simp only [zdf])
 generalize (l.any fun x => decide (x = s)) = res at *
 clear hl hlr hls
 go_enter Tryz.func35, Tryz.ntmps35
 go_wp2_with fail
 go_loop [5] (fun i => ∃ k : Nat, k ≤ l.length ∧ i = .int .i64 k ∧ Hid (∀ i x, i < k → l[i]? = some x → (x.toList == s.toList) = false)) (fun i => l.length - (intOf i).toNat)
 case atStart => exact ⟨0, Nat.zero_le _, rfl, fun _ _ h => by omega⟩
 case round =>
  obtain ⟨k, hk, rfl, Hall⟩ := hrel
  by_cases hlt : k < l.length
  ·obtain ⟨b, o, rfl, hSb, hrow⟩ := HL.out (by omega)
   obtain ⟨x, hx⟩ : ∃ x, l[k]? = some x := ⟨_, List.getElem?_eq_getElem hlt⟩
   have hcx := hrow k (.string x) (by simp [hx])
   have Hx := q_ hx
   clear hx hrow hSb
   go_wp2_with fail
   ·have he : (x.toList == s.toList) = true := by assumption
    go_ret
    exact ⟨zal (by rw [HD.out]; exact (List.any_eq_true.2 ⟨x, List.mem_of_getElem? Hx.out, he⟩).symm), rfl⟩
   ·have he : (x.toList == s.toList) = false := by assumption
    go_round
    case rel => exact ⟨k + 1, by omega, by go_num, fun i p hi hp => by
     by_cases hik : i = k
     ·subst hik; rw [Hx.out] at hp; cases hp; exact he
     ·exact Hall.out i p (by omega) hp⟩
    case measure => simp [intOf]; omega
  ·go_wp2_with fail
   go_ret
   have hke : k = l.length := by omega
   subst hke
   exact ⟨zal (by
    rw [HD.out, eq_comm, List.any_eq_false]
    intro x hx
    obtain ⟨i, hi⟩ := List.mem_iff_getElem?.1 hx
    rw [Hall.out i x (List.getElem?_eq_some_iff.1 hi).1 hi]; simp), rfl⟩
theorem has_ok12 (S : Nat → Prop) (l : List ByteArray) (v : Value) (s : ByteArray) (w : World) (hl : strR.RowsAt S w l v) :
  Calls Tryz.prog 47 #[v, .string s] w fun e w' => e = .returned (.bool (l.any fun x => decide (x = s))) ∧ w = w' := by
 obtain ⟨A, cap, rfl, hl0, hl1, hl2, hls, hlr⟩ := zds hl
 rw [zak] at hl0
 rw [zab] at hl2
 have HL := q_ hlr
 have HD : Hid ((l.any fun x => decide (x = s)) = l.any fun x => x.toList == s.toList) := q_ (by simp only [zdf])
 generalize (l.any fun x => decide (x = s)) = res at *
 clear hl hlr hls
 go_enter Tryz.func47, Tryz.ntmps47
 go_wp2_with fail
 go_loop [5] (fun i => ∃ k : Nat, k ≤ l.length ∧ i = .int .i64 k ∧ Hid (∀ i x, i < k → l[i]? = some x → (x.toList == s.toList) = false)) (fun i => l.length - (intOf i).toNat)
 case atStart => exact ⟨0, Nat.zero_le _, rfl, fun _ _ h => by omega⟩
 case round =>
  obtain ⟨k, hk, rfl, Hall⟩ := hrel
  by_cases hlt : k < l.length
  ·obtain ⟨b, o, rfl, hSb, hrow⟩ := HL.out (by omega)
   obtain ⟨x, hx⟩ : ∃ x, l[k]? = some x := ⟨_, List.getElem?_eq_getElem hlt⟩
   have hcx := hrow k (.string x) (by simp [hx])
   have Hx := q_ hx
   clear hx hrow hSb
   go_wp2_with fail
   ·have he : (x.toList == s.toList) = true := by assumption
    go_ret
    exact ⟨zal (by rw [HD.out]; exact (List.any_eq_true.2 ⟨x, List.mem_of_getElem? Hx.out, he⟩).symm), rfl⟩
   ·have he : (x.toList == s.toList) = false := by assumption
    go_round
    case rel => exact ⟨k + 1, by omega, by go_num, fun i p hi hp => by
     by_cases hik : i = k
     ·subst hik; rw [Hx.out] at hp; cases hp; exact he
     ·exact Hall.out i p (by omega) hp⟩
    case measure => simp [intOf]; omega
  ·go_wp2_with fail
   go_ret
   have hke : k = l.length := by omega
   subst hke
   exact ⟨zal (by
    rw [HD.out, eq_comm, List.any_eq_false]
    intro x hx
    obtain ⟨i, hi⟩ := List.mem_iff_getElem?.1 hx
    rw [Hall.out i x (List.getElem?_eq_some_iff.1 hi).1 hi]; simp), rfl⟩
theorem attrR_ok (S : Nat → Prop) (l : List Atr) (v : Value) (s : ByteArray) (w : World) (hl : atrR.RowsAt S w l v) :
  Calls Tryz.prog 68 #[v, .string s] w fun e w' => e = .returned (.int .i64 (pos (zcd l s))) ∧ w = w' := by
 obtain ⟨A, cap, rfl, ⟨hl0, hl1, hl2⟩, hlr⟩ := hl
 rw [zak] at hl0
 rw [zab] at hl2
 have HL := q_ hlr
 clear hlr
 go_enter Tryz.func68, Tryz.ntmps68
 go_wp2_with fail
 go_loop [5] (fun i => ∃ k : Nat, k ≤ l.length ∧ i = .int .i64 k ∧ Hid (∀ i x, i < k → l[i]? = some x → (x.name.toList == s.toList) = false)) (fun i => l.length - (intOf i).toNat)
 case atStart => exact ⟨0, Nat.zero_le _, rfl, fun _ _ h => by omega⟩
 case round =>
  obtain ⟨k, hk, rfl, Hall⟩ := hrel
  by_cases hlt : k < l.length
  ·obtain ⟨b, o, rfl, hSb, hrow⟩ := HL.out (by omega)
   obtain ⟨x, hx⟩ : ∃ x, l[k]? = some x := ⟨_, List.getElem?_eq_getElem hlt⟩
   obtain ⟨cs, hca, hxa⟩ := hrow k x hx
   obtain ⟨_, _, _, _, _, _, rfl, _⟩ := Atr.At.shape hxa
   have hcx : w.cell? ⟨b, o + k * 6, none⟩ = some (.string x.name) := hca 0 _ rfl
   have Hx := q_ hx
   clear hx hrow hSb hca hxa
   go_wp2_with fail
   ·have he : (x.name.toList == s.toList) = true := by assumption
    go_ret
    exact ⟨zag (by rw [show zcd l s = some k from zbl (p := fun a : Atr => a.name.toList == s.toList) Hx.out he Hall.out]; rfl), rfl⟩
   ·have he : (x.name.toList == s.toList) = false := by assumption
    go_round
    case rel => exact ⟨k + 1, by omega, by go_num, fun i p hi hp => by
     by_cases hik : i = k
     ·subst hik; rw [Hx.out] at hp; cases hp; exact he
     ·exact Hall.out i p (by omega) hp⟩
    case measure => simp [intOf]; omega
  ·go_wp2_with fail
   go_ret
   have hke : k = l.length := by omega
   subst hke
   exact ⟨zag (by rw [show zcd l s = none from zby (p := fun a : Atr => a.name.toList == s.toList) Hall.out]; rfl), rfl⟩
theorem sty_name {S : Nat → Prop} {w : World} {x : EntT} {cs : List Value} (h : entTR.At S w x cs) : ∃ r, ∃ _ : True, cs = .string x.name :: r ∧ True := by
 obtain ⟨v1, v2, rfl, _⟩ := h; exact ⟨_, trivial, rfl, trivial⟩
theorem sac_name {S : Nat → Prop} {w : World} {x : ActT} {cs : List Value} (h : actTR.At S w x cs) : ∃ r, ∃ _ : True, cs = .string x.id :: r ∧ True := by
 obtain ⟨v1, v2, v3, v4, rfl, _⟩ := h; exact ⟨_, trivial, rfl, trivial⟩
theorem styR_ok (S : Nat → Prop) (s : Sch) (ss : List Value) (nm : ByteArray) (w : World) (hS : ∀ b, S b → b < w.heap.size) (hs : Sch.At S w s ss) :
  Calls Tryz.prog 18 #[.agg ss.toArray, .string nm] w fun e w' => e = .returned (.int .i64 (pos (zca s.types nm))) ∧ Ext w w' := by
 obtain ⟨v1, v2, rfl, h1, h2⟩ := hs
 obtain ⟨A1, cap1, rfl, ⟨hl0, hl1, hl2⟩, hlr⟩ := h1
 obtain ⟨A2, cap2, rfl, ⟨_, _, hm2⟩, _⟩ := h2
 rw [zak] at hl0
 rw [zab] at hl2 hm2
 generalize s.types = l at hl0 hl1 hlr ⊢
 generalize s.acts.length = n2
 have HL := q_ hlr
 have HS := q_ hS
 clear hlr hS
 have HX := q_ ((Ext.refl w).alloc (.cells #[Value.slice A1 l.length cap1, .slice A2 n2 cap2] 25))
 go_enter Tryz.func18, Tryz.ntmps18
 go_wp2_with fail
 go_loop [5] (fun i => ∃ k : Nat, k ≤ l.length ∧ i = .int .i64 k ∧ Hid (∀ i x, i < k → l[i]? = some x → (x.name.toList == nm.toList) = false)) (fun i => l.length - (intOf i).toNat)
 case atStart => exact ⟨0, Nat.zero_le _, rfl, fun _ _ h => by omega⟩
 case round =>
  obtain ⟨k, hk, rfl, Hall⟩ := hrel
  by_cases hlt : k < l.length
  ·obtain ⟨b, o, rfl, hSb, hrow⟩ := HL.out (by omega)
   obtain ⟨x, hx⟩ : ∃ x, l[k]? = some x := ⟨_, List.getElem?_eq_getElem hlt⟩
   obtain ⟨cs, hca, hxa⟩ := hrow k x hx
   have hc0 : cs[0]? = some (.string x.name) := by obtain ⟨_, _, rfl, _⟩ := sty_name hxa; rfl
   have hcx := (hca.alike hSb (Alike.of_ext HX.out HS.out)) 0 _ hc0
   have hcx : (w.alloc (.cells #[Value.slice (some ⟨b, o, none⟩) l.length cap1, .slice A2 n2 cap2] 25)).cell? ⟨b, o + k * 3, none⟩ = some (.string x.name) := hcx
   have Hx := q_ hx
   clear hx hrow hSb hca hxa hc0
   go_wp2_with fail
   ·have he : (x.name.toList == nm.toList) = true := by assumption
    go_ret
    exact ⟨zag (by rw [show zca l nm = some k from zbl (p := fun a : EntT => a.name.toList == nm.toList) Hx.out he Hall.out]; rfl), HX.out⟩
   ·have he : (x.name.toList == nm.toList) = false := by assumption
    go_round
    case rel => exact ⟨k + 1, by omega, by go_num, fun i p hi hp => by
     by_cases hik : i = k
     ·subst hik; rw [Hx.out] at hp; cases hp; exact he
     ·exact Hall.out i p (by omega) hp⟩
    case measure => simp [intOf]; omega
  ·go_wp2_with fail
   go_ret
   have hke : k = l.length := by omega
   subst hke
   exact ⟨zag (by rw [show zca l nm = none from zby (p := fun a : EntT => a.name.toList == nm.toList) Hall.out]; rfl), HX.out⟩
theorem sacR_ok (S : Nat → Prop) (s : Sch) (ss : List Value) (nm : ByteArray) (w : World) (hS : ∀ b, S b → b < w.heap.size) (hs : Sch.At S w s ss) :
  Calls Tryz.prog 19 #[.agg ss.toArray, .string nm] w fun e w' => e = .returned (.int .i64 (pos (zbi s.acts nm))) ∧ Ext w w' := by
 obtain ⟨v1, v2, rfl, h1, h2⟩ := hs
 obtain ⟨A1, cap1, rfl, ⟨hl0, hl1, hl2⟩, hlr⟩ := h2
 obtain ⟨A2, cap2, rfl, ⟨_, _, hm2⟩, _⟩ := h1
 rw [zak] at hl0
 rw [zab] at hl2 hm2
 generalize s.acts = l at hl0 hl1 hlr ⊢
 generalize s.types.length = n2
 have HL := q_ hlr
 have HS := q_ hS
 clear hlr hS
 have HX := q_ ((Ext.refl w).alloc (.cells #[Value.slice A2 n2 cap2, .slice A1 l.length cap1] 25))
 go_enter Tryz.func19, Tryz.ntmps19
 go_wp2_with fail
 go_loop [5] (fun i => ∃ k : Nat, k ≤ l.length ∧ i = .int .i64 k ∧ Hid (∀ i x, i < k → l[i]? = some x → (x.id.toList == nm.toList) = false)) (fun i => l.length - (intOf i).toNat)
 case atStart => exact ⟨0, Nat.zero_le _, rfl, fun _ _ h => by omega⟩
 case round =>
  obtain ⟨k, hk, rfl, Hall⟩ := hrel
  by_cases hlt : k < l.length
  ·obtain ⟨b, o, rfl, hSb, hrow⟩ := HL.out (by omega)
   obtain ⟨x, hx⟩ : ∃ x, l[k]? = some x := ⟨_, List.getElem?_eq_getElem hlt⟩
   obtain ⟨cs, hca, hxa⟩ := hrow k x hx
   have hc0 : cs[0]? = some (.string x.id) := by obtain ⟨_, _, rfl, _⟩ := sac_name hxa; rfl
   have hcx := (hca.alike hSb (Alike.of_ext HX.out HS.out)) 0 _ hc0
   have hcx : (w.alloc (.cells #[Value.slice A2 n2 cap2, .slice (some ⟨b, o, none⟩) l.length cap1] 25)).cell? ⟨b, o + k * 5, none⟩ = some (.string x.id) := hcx
   have Hx := q_ hx
   clear hx hrow hSb hca hxa hc0
   go_wp2_with fail
   ·have he : (x.id.toList == nm.toList) = true := by assumption
    go_ret
    exact ⟨zag (by rw [show zbi l nm = some k from zbl (p := fun a : ActT => a.id.toList == nm.toList) Hx.out he Hall.out]; rfl), HX.out⟩
   ·have he : (x.id.toList == nm.toList) = false := by assumption
    go_round
    case rel => exact ⟨k + 1, by omega, by go_num, fun i p hi hp => by
     by_cases hik : i = k
     ·subst hik; rw [Hx.out] at hp; cases hp; exact he
     ·exact Hall.out i p (by omega) hp⟩
    case measure => simp [intOf]; omega
  ·go_wp2_with fail
   go_ret
   have hke : k = l.length := by omega
   subst hke
   exact ⟨zag (by rw [show zbi l nm = none from zby (p := fun a : ActT => a.id.toList == nm.toList) Hall.out]; rfl), HX.out⟩
end Go.Proofs.YtbkaffhbhimglaaGreat
