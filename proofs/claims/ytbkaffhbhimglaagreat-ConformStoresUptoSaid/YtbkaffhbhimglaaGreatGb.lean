/-
  How small a value is, how deep: what the statements' own measures and both Depths come to. The conditions: none beyond each contract's own.
-/
import Derived.Test.YtbkaffhbhimglaaGreatGa
import Derived.Maps.AppendAt
namespace Go.Proofs.YtbkaffhbhimglaaGreat
open Go.RowKit
open Lib renaming hid → q_
set_option maxRecDepth 100000
set_option maxHeartbeats 400000
mutual
def Val.dep : Val → Nat
 | .mk k _ _ _ _ _ items _ => if k = 5 ∨ k = 6 then Val.deps items + 1 else 1
def Val.deps : List Val → Nat
 | [] => 0
 | x :: r => max x.dep (Val.deps r)
end
theorem Val.deps_take_succ : ∀ {l : List Val} {k : Nat} {x : Val}, l[k]? = some x → Val.deps (l.take (k + 1)) = max (Val.deps (l.take k)) x.dep
 | [], _, _, h => by simp at h
 | y :: r, 0, x, h => by simp at h; subst h; simp [Val.deps]
 | y :: r, k + 1, x, h => by
  simp only [List.take_succ_cons, Val.deps]
  rw [Val.deps_take_succ (l := r) (k := k) (by simpa using h), Nat.max_assoc]
theorem Val.deps_mem {x : Val} : ∀ {l : List Val}, x ∈ l → x.dep ≤ Val.deps l
 | y :: r, h => by
  simp only [Val.deps]
  rcases List.mem_cons.1 h with rfl | h
  ·omega
  ·have := Val.deps_mem h; omega
theorem Val.deps_le {n : Nat} : ∀ {l : List Val}, (∀ x ∈ l, x.dep ≤ n) → Val.deps l ≤ n
 | [], _ => by simp [Val.deps]
 | y :: r, h => by
  have := h y (by simp)
  have := Val.deps_le (l := r) fun x hx => h x (by simp [hx])
  simp only [Val.deps]; omega
theorem Val.deps_take_le (l : List Val) (k : Nat) : Val.deps (l.take k) ≤ Val.deps l := Val.deps_le fun _ hx => Val.deps_mem (List.mem_of_mem_take hx)
theorem Val.dep_pos (v : Val) : 1 ≤ v.dep := by cases v; simp only [Val.dep]; split <;> omega
theorem Val.size_get {l : List Val} {i : Nat} {x : Val} (h : l[i]? = some x) : SizeOf.sizeOf x < SizeOf.sizeOf l := List.sizeOf_lt_of_mem (List.mem_of_getElem? h)
def SomeInt (P : Int → Prop) (w : World) (e : Ending) (w' : World) : Prop := ∃ n : Int, P n ∧ e = .returned (.int .i64 n) ∧ Ext w w'
theorem depth_okR (n : Nat) : ∀ (e : Val) (S : Nat → Prop) (w : World) (cs : List Value), SizeOf.sizeOf e ≤ n → e.dep ≤ 1000000 → (∀ b, S b → b < w.heap.size) → Val.At S w e cs →
  Calls Tryz.prog 118 #[.agg cs.toArray] w fun en w' => en = .returned (.int .i64 e.dep) ∧ Ext w w' := by
 induction n with
 | zero => intro e; cases e; simp
 | succ n ih =>
  intro e S w cs hn hd hS h
  cases e with
  | mk k bo i t ut ui items names =>
  unfold Val.At at h
  obtain ⟨A, cap, nv, rfl, _, ⟨hb2, hb4, hb5⟩, hitems, A2, cap2, rfl, hb3⟩ := h
  have hdep : (Val.mk k bo i t ut ui items names).dep = if k = 5 ∨ k = 6 then Val.deps items + 1 else 1 := by rw [Val.dep]
  have Hk := q_ hitems
  have HS := q_ hS
  have Hn := q_ hn
  have IH := q_ ih
  rw [zab] at hb5
  rw [zak] at hb2
  clear hitems hb3 hS hn ih
  by_cases hk : k = 5 ∨ k = 6
  ·rw [if_pos hk] at hdep
   rw [hdep] at hd
   have Hd := q_ hdep
   have HD := q_ hd
   clear hdep hd
   rcases hk with rfl | rfl
   all_goals
    go_enter Tryz.func118, Tryz.ntmps118
    go_wp2_with fail
    go_loopw [3, 4] (fun m i' wr => ∃ (j : Nat), j ≤ items.length ∧ i' = .int .i64 j ∧ m = .int .i64 (Val.deps (items.take j)) ∧ (∃ kk : Int, wr.heap[w.heap.size]? = some (.cells #[.int .i64 kk, .bool bo, .int .i64 i, .string t, .string ut, .string ui, .slice A items.length cap, .slice A2 names.length cap2] 46 (0, 0))) ∧ Ext w wr)
     (fun _ i' _ => items.length - (intOf i').toNat)
    case atStart => exact ⟨0, Nat.zero_le _, rfl, by simp [Val.deps], ⟨_, heap_alloc_new _ _⟩, (Ext.refl w).alloc _⟩
    case round =>
     obtain ⟨j, hk, rfl, rfl, ⟨kk, hbox⟩, hext⟩ := hrel
     have c7 := cell_of_row _ _ 6 _ _ _ hbox
     simp at c7
     have HX := q_ hext
     have HB := q_ hbox
     clear hext hbox
     have hdj := Val.deps_take_le items j
     have hdn : Val.deps (items.take j) ≤ 1000000 := by have := HD.out; omega
     by_cases hlt : j < items.length
     ·obtain ⟨b, o, rfl, hSb, hrow⟩ := Hk.out (by omega)
      obtain ⟨x, hx⟩ : ∃ x, items[j]? = some x := ⟨_, List.getElem?_eq_getElem hlt⟩
      obtain ⟨cs, hcl, hca, hxa⟩ := hrow.get hx
      have Hca := q_ (hca.alike hSb (Alike.of_ext HX.out HS.out))
      have Hxa := q_ (hxa.alike (Alike.of_ext HX.out HS.out))
      have Hx := q_ hx
      have Hcl := q_ hcl
      have hxd : x.dep ≤ 1000000 := by have := HD.out; have := Val.deps_mem (List.mem_of_getElem? hx); omega
      have Ht := q_ (Val.deps_take_succ hx)
      clear hx hxa hca hrow hcl hSb
      generalize hz : Val.deps (items.take j) = z at *
      have Hz := q_ hz
      clear hz hdj
      go_wp2_with (first | refine zac rfl 46 _ rfl b (o + j * 8) rfl zai zaf Hcl.out Hca.out ?_ | (go_at_call 118; refine (IH.out x S _ cs (by have := Hn.out; have := Val.size_get Hx.out; simp at *; omega) (by omega) (fun b hb => Nat.lt_of_lt_of_le (HS.out b hb) HX.out.size) Hxa.out).mono ?_; rintro e w' ⟨rfl, hx2⟩; have HX2 := q_ hx2; clear hx2))
      ·have hlt2 : z < x.dep := by assumption
       go_roundw
       case rel => exact ⟨j + 1, by omega, by go_num, by rw [Ht.out, Nat.max_eq_right (by omega)], ⟨_, (HX2.out.block _ (zad HB.out)).trans HB.out⟩, HX.out.trans HX2.out⟩
       case measure => simp [intOf]; omega
      ·have hlt2 : ¬ z < x.dep := by assumption
       go_roundw
       case rel => exact ⟨j + 1, by omega, by go_num, by rw [Ht.out, Nat.max_eq_left (by omega)], ⟨_, (HX2.out.block _ (zad HB.out)).trans HB.out⟩, HX.out.trans HX2.out⟩
       case measure => simp [intOf]; omega
     ·have hke : j = items.length := by omega
      subst hke
      rw [List.take_length] at hdn ⊢
      clear hdj
      generalize hz : Val.deps items = z at *
      clear hz
      go_wp2_with fail
      go_ret
      exact ⟨zag (by rw [Hd.out]; simp), HX.out⟩
  ·rw [if_neg hk] at hdep
   have Hd := q_ hdep
   clear hdep hd
   have e5 : (k != 5) = true := by simp; omega
   have e6 : (k != 6) = true := by simp; omega
   clear hk
   go_enter Tryz.func118, Tryz.ntmps118
   go_wp2_with fail
   go_ret
   exact ⟨zag (by rw [Hd.out]; rfl), (Ext.refl w).alloc _⟩
theorem depth_okP (n : Nat) : ∀ (e : Val) (S : Nat → Prop) (w : World) (cs : List Value), SizeOf.sizeOf e ≤ n → e.dep ≤ 1000000 → (∀ b, S b → b < w.heap.size) → Val.At S w e cs →
  Calls Tryz.prog 73 #[.agg cs.toArray] w fun en w' => en = .returned (.int .i64 e.dep) ∧ Ext w w' := by
 induction n with
 | zero => intro e; cases e; simp
 | succ n ih =>
  intro e S w cs hn hd hS h
  cases e with
  | mk k bo i t ut ui items names =>
  unfold Val.At at h
  obtain ⟨A, cap, nv, rfl, _, ⟨hb2, hb4, hb5⟩, hitems, A2, cap2, rfl, hb3⟩ := h
  have hdep : (Val.mk k bo i t ut ui items names).dep = if k = 5 ∨ k = 6 then Val.deps items + 1 else 1 := by rw [Val.dep]
  have Hk := q_ hitems
  have HS := q_ hS
  have Hn := q_ hn
  have IH := q_ ih
  rw [zab] at hb5
  rw [zak] at hb2
  clear hitems hb3 hS hn ih
  by_cases hk : k = 5 ∨ k = 6
  ·rw [if_pos hk] at hdep
   rw [hdep] at hd
   have Hd := q_ hdep
   have HD := q_ hd
   clear hdep hd
   rcases hk with rfl | rfl
   all_goals
    go_enter Tryz.func73, Tryz.ntmps73
    go_wp2_with fail
    go_loopw [3, 17] (fun m i' wr => ∃ (j : Nat), j ≤ items.length ∧ i' = .int .i64 j ∧ m = .int .i64 (Val.deps (items.take j)) ∧ (∃ kk : Int, wr.heap[w.heap.size]? = some (.cells #[.int .i64 kk, .bool bo, .int .i64 i, .string t, .string ut, .string ui, .slice A items.length cap, .slice A2 names.length cap2] 46 (0, 0))) ∧ Ext w wr)
     (fun _ i' _ => items.length - (intOf i').toNat)
    case atStart => exact ⟨0, Nat.zero_le _, rfl, by simp [Val.deps], ⟨_, heap_alloc_new _ _⟩, (Ext.refl w).alloc _⟩
    case round =>
     obtain ⟨j, hk, rfl, rfl, ⟨kk, hbox⟩, hext⟩ := hrel
     have c7 := cell_of_row _ _ 6 _ _ _ hbox
     simp at c7
     have HX := q_ hext
     have HB := q_ hbox
     clear hext hbox
     have hdj := Val.deps_take_le items j
     have hdn : Val.deps (items.take j) ≤ 1000000 := by have := HD.out; omega
     by_cases hlt : j < items.length
     ·obtain ⟨b, o, rfl, hSb, hrow⟩ := Hk.out (by omega)
      obtain ⟨x, hx⟩ : ∃ x, items[j]? = some x := ⟨_, List.getElem?_eq_getElem hlt⟩
      obtain ⟨cs, hcl, hca, hxa⟩ := hrow.get hx
      have Hca := q_ (hca.alike hSb (Alike.of_ext HX.out HS.out))
      have Hxa := q_ (hxa.alike (Alike.of_ext HX.out HS.out))
      have Hx := q_ hx
      have Hcl := q_ hcl
      have hxd : x.dep ≤ 1000000 := by have := HD.out; have := Val.deps_mem (List.mem_of_getElem? hx); omega
      have Ht := q_ (Val.deps_take_succ hx)
      clear hx hxa hca hrow hcl hSb
      generalize hz : Val.deps (items.take j) = z at *
      have Hz := q_ hz
      clear hz hdj
      obtain ⟨k1, b1, n1, t1, ut1, ui1, A1, l1, c1, A2, l2, c2, rfl⟩ := Hxa.out.shape
      go_wp2_with (first | refine zac rfl 46 _ rfl b (o + j * 8) rfl zai zaf Hcl.out Hca.out ?_ | (go_at_call 73; refine (IH.out x S _ [_, _, _, _, _, _, _, _] (by have := Hn.out; have := Val.size_get Hx.out; simp at *; omega) (by omega) (fun b hb => Nat.lt_of_lt_of_le (HS.out b hb) (HX.out.alloc _).size) (Hxa.out.alike (Alike.of_ext ((Ext.refl _).alloc _) (fun b hb => Nat.lt_of_lt_of_le (HS.out b hb) HX.out.size)))).mono ?_; rintro e w' ⟨rfl, hx2⟩; have HX2 := q_ hx2; clear hx2))
      go_roundw
      case rel => exact ⟨j + 1, by omega, by go_num, by rw [Ht.out]; congr 1; split <;> omega, ⟨_, ((Ext.trans ((Ext.refl wr).alloc _) HX2.out).block _ (zad HB.out)).trans HB.out⟩, (HX.out.alloc _).trans HX2.out⟩
      case measure => simp [intOf]; omega
     ·have hke : j = items.length := by omega
      subst hke
      rw [List.take_length] at hdn ⊢
      clear hdj
      generalize hz : Val.deps items = z at *
      clear hz
      go_wp2_with fail
      go_ret
      exact ⟨zag (by rw [Hd.out]; simp), HX.out⟩
  ·rw [if_neg hk] at hdep
   have Hd := q_ hdep
   clear hdep hd
   have e5 : (k != 5) = true := by simp; omega
   have e6 : (k != 6) = true := by simp; omega
   clear hk
   go_enter Tryz.func73, Tryz.ntmps73
   go_wp2_with fail
   go_ret
   exact ⟨zag (by rw [Hd.out]; rfl), (Ext.refl w).alloc _⟩
end Go.Proofs.YtbkaffhbhimglaaGreat

/-
  What the reference's order of values comes to: the same plain function as the program's. The conditions: none beyond each contract's own.
-/
namespace Go.Proofs.YtbkaffhbhimglaaGreat
open Go.RowKit
open Lib renaming hid → q_
set_option maxRecDepth 100000
set_option maxHeartbeats 800000
def cmpB (x y : UInt8) : Int := cmpI x.toNat y.toNat
theorem cmpL_lexL : ∀ a b : List UInt8, cmpL a b = lexL cmpB a b
 | [], [] => rfl
 | [], _ :: _ => rfl
 | _ :: _, [] => rfl
 | x :: r, y :: s => by
  simp only [cmpL, lexL, zeb, cmpB, cmpI, cmpL_lexL r s, UInt8.lt_iff_toNat_lt, Int.ofNat_lt]
  by_cases h1 : x.toNat < y.toNat
  ·simp [h1]
  ·by_cases h2 : y.toNat < x.toNat
   ·simp [h1, h2]
   ·simp [h1, h2]
theorem cmpS_lexL (a b : ByteArray) : cmpS a b = lexL cmpB a.data.toList b.data.toList := by rw [cmpS, cmpL_lexL, ByteArray.toList_eq, ByteArray.toList_eq]
theorem ints_ok (a b : Int) (w : World) : Calls Tryz.prog 120 #[.int .i64 a, .int .i64 b] w fun e w' => e = .returned (.int .i64 (cmpI a b)) ∧ w = w' := by
 go_enter Tryz.func120, Tryz.ntmps120
 go_wp2_with fail
 ·go_ret
  have h : a < b := by assumption
  exact ⟨zag (by simp [cmpI, h]), rfl⟩
 ·go_ret
  have h : b < a := by assumption
  exact ⟨zag (by rw [cmpI, if_neg (by omega), if_pos h]), rfl⟩
 ·go_ret
  exact ⟨zag (by rw [cmpI, if_neg (by omega), if_neg (by omega)]), rfl⟩
theorem zc9 (a b : ByteArray) (w : World) (ha : a.size ≤ maxLen) (_hb : b.size ≤ maxLen) : Calls Tryz.prog 91 #[.string a, .string b] w fun e w' => e = .returned (.int .i64 (cmpS a b)) ∧ Ext w w' := by
 rw [zab] at ha _hb
 have la : a.data.toList.length = a.size := by simp
 have lb : b.data.toList.length = b.size := by simp
 have La := q_ la
 have Lb := q_ lb
 clear la lb
 go_enter Tryz.func91, Tryz.ntmps91
 go_wp2_with fail
 go_loopw [5] (fun i wr => ∃ k : Nat, k ≤ a.size ∧ k ≤ b.size ∧ i = .int .i64 k ∧ Ext w wr ∧ Hid (∀ i x y, i < k → a.data.toList[i]? = some x → b.data.toList[i]? = some y → cmpB x y = 0)) (fun i _ => a.size - (intOf i).toNat)
 case atStart => exact ⟨0, Nat.zero_le _, Nat.zero_le _, rfl, Ext.refl w, fun _ _ _ h => by omega⟩
 case round =>
  obtain ⟨k, hk, hkm, rfl, hext, Hall⟩ := hrel
  have HX := q_ hext
  clear hext
  by_cases hlt : k < a.size
  ·by_cases hlm : k < b.size
   ·have Hx := q_ (show a.data.toList[k]? = some a[k] by rw [List.getElem?_eq_getElem (by simpa using hlt)]; rfl)
    have Hy := q_ (show b.data.toList[k]? = some b[k] by rw [List.getElem?_eq_getElem (by simpa using hlm)]; rfl)
    go_wp2_with fail
    refine zae (by kernel_rfl) (by kernel_rfl) ?_
    repeat (quiet_step (fail))
    refine wpQuiet_nil ?_
    intro w2 hw2
    have HX2 := q_ hw2
    clear hw2
    go_wp2_with fail
    ·have hne : ((a[k].toNat : Int) != b[k].toNat) = true := by assumption
     refine zae (by kernel_rfl) (by kernel_rfl) ?_
     repeat (quiet_step (fail))
     refine wpQuiet_nil ?_
     intro w3 hw3
     have HX3 := q_ hw3
     clear hw3
     go_wp2_with fail
     ·have hl : (a[k].toNat : Int) < b[k].toNat := by first | assumption | omega | (have h : a[k] < b[k] := by assumption; rw [UInt8.lt_iff_toNat_lt] at h; omega)
      go_ret
      exact ⟨zag (by
       have h1 : cmpB a[k] b[k] = -1 := by rw [cmpB, cmpI, if_pos hl]
       rw [cmpS_lexL, lexL_at Hx.out Hy.out Hall.out (by rw [h1]; omega), h1]), (HX.out.trans HX2.out).trans HX3.out⟩
     ·have hl : ¬ (a[k].toNat : Int) < b[k].toNat := by first | assumption | omega | (have h : ¬ a[k] < b[k] := by assumption; rw [UInt8.lt_iff_toNat_lt] at h; omega) | (have h : b[k] ≤ a[k] := by assumption; rw [UInt8.le_iff_toNat_le] at h; omega)
      go_ret
      exact ⟨zag (by
       have h1 : cmpB a[k] b[k] = 1 := by
        rw [cmpB, cmpI, if_neg hl, if_pos]
        have : (a[k].toNat : Int) ≠ b[k].toNat := by simpa only [bne_iff_ne] using hne
        omega
       rw [cmpS_lexL, lexL_at Hx.out Hy.out Hall.out (by rw [h1]; omega), h1]), (HX.out.trans HX2.out).trans HX3.out⟩
    ·have hne : ((a[k].toNat : Int) != b[k].toNat) = false := by assumption
     go_roundw
     case rel => exact ⟨k + 1, by omega, by omega, by go_num, HX.out.trans HX2.out, fun i p q hi hp hq => by
      by_cases hik : i = k
      ·subst hik; rw [Hx.out] at hp; rw [Hy.out] at hq; cases hp; cases hq
       have : (a[i].toNat : Int) = b[i].toNat := by simpa only [bne_eq_false_iff_eq] using hne
       rw [cmpB, cmpI, if_neg (by omega), if_neg (by omega)]
      ·exact Hall.out i p q (by omega) hp hq⟩
     case measure => simp [intOf]; omega
   ·have hke : k = b.size := by omega
    subst hke
    go_wp2_with (go_at_call 120; refine (ints_ok _ _ _).mono ?_; rintro e w' ⟨rfl, rfl⟩)
    go_ret
    exact ⟨zag (by rw [cmpS_lexL, lexL_long (by rw [La.out, Lb.out]; omega) (by rw [Lb.out]; exact Hall.out), cmpI, if_neg (by omega), if_pos (by omega)]), HX.out⟩
  ·have hke : k = a.size := by omega
   subst hke
   go_wp2_with (go_at_call 120; refine (ints_ok _ _ _).mono ?_; rintro e w' ⟨rfl, rfl⟩)
   go_ret
   exact ⟨zag (by
    rw [cmpS_lexL, zdv (by rw [La.out, Lb.out]; omega) (by rw [La.out]; exact Hall.out), La.out, Lb.out, cmpI]
    by_cases h : a.size < b.size
    ·rw [if_pos (by omega), if_pos h]
    ·rw [if_neg (by omega), if_neg (by omega), if_neg h]), HX.out⟩
theorem namedR_ok (k : Int) (bo : Bool) (n : Int) (t ut ui : ByteArray) (A A2 : Option Addr) (cap cap2 l l2 : Nat) (w : World) (hl : l ≤ cap) (_hc : cap ≤ maxLen) (hl2 : l2 ≤ maxLen) :
  Calls Tryz.prog 154 #[.agg #[.int .i64 k, .bool bo, .int .i64 n, .string t, .string ut, .string ui, .slice A l cap, .slice A2 l2 cap2]] w fun e w' =>
   e = .returned (.slice A (min l l2) cap) ∧ Ext w w' := by
 unfold maxLen at *
 go_enter Tryz.func154, Tryz.ntmps154
 go_wp2
 ·go_ret
  have h : l2 < l := by omega
  rw [Nat.min_eq_right (by omega)]
  exact ⟨rfl, (Ext.refl w).alloc _⟩
 ·go_ret
  have h : ¬ l2 < l := by omega
  rw [Nat.min_eq_left (by omega)]
  exact ⟨rfl, (Ext.refl w).alloc _⟩
theorem rows_ok (S : Nat → Prop) (l m : List Val) (v v' : Value) (w : World) (hS : ∀ b, S b → b < w.heap.size) (hl : ValsAt S w l v) (hm : ValsAt S w m v')
  (hc : ∀ x ∈ l, ∀ y ∈ m, ∀ (w1 : World) (cx cy : List Value), (∀ b, S b → b < w1.heap.size) → Val.At S w1 x cx → Val.At S w1 y cy →
   Calls Tryz.prog 139 #[.agg cx.toArray, .agg cy.toArray] w1 fun e w' => e = .returned (.int .i64 (x.ord y)) ∧ Ext w1 w') :
  Calls Tryz.prog 153 #[v, v'] w fun e w' => e = .returned (.int .i64 (lexL Val.ord l m)) ∧ Ext w w' := by
 obtain ⟨A, cap, rfl, ⟨hl0, hl1, hl2⟩, hlr⟩ := hl
 obtain ⟨B, cap', rfl, ⟨hm0, hm1, hm2⟩, hmr⟩ := hm
 rw [zak] at hl0 hm0
 rw [zab] at hl2 hm2
 have HS := q_ hS
 have HC := q_ hc
 have HL := q_ hlr
 have HM := q_ hmr
 clear hS hc hlr hmr
 go_enter Tryz.func153, Tryz.ntmps153
 go_wp2_with fail
 go_loopw [5] (fun i wr => ∃ k : Nat, k ≤ l.length ∧ k ≤ m.length ∧ i = .int .i64 k ∧ Ext w wr ∧ Hid (∀ i x y, i < k → l[i]? = some x → m[i]? = some y → x.ord y = 0)) (fun i _ => l.length - (intOf i).toNat)
 case atStart => exact ⟨0, Nat.zero_le _, Nat.zero_le _, rfl, Ext.refl w, fun _ _ _ h => by omega⟩
 case round =>
  obtain ⟨k, hk, hkm, rfl, hext, Hall⟩ := hrel
  have HX := q_ hext
  have HSr := q_ (show ∀ b, S b → b < wr.heap.size from fun b hb => Nat.lt_of_lt_of_le (HS.out b hb) hext.size)
  clear hext
  by_cases hlt : k < l.length
  ·obtain ⟨b, o, rfl, hSb, hrow⟩ := HL.out (by omega)
   obtain ⟨x, hx⟩ : ∃ x, l[k]? = some x := ⟨_, List.getElem?_eq_getElem hlt⟩
   obtain ⟨cs, hcl, hca, hxa⟩ := hrow.get hx
   have Hca := q_ (hca.alike hSb (Alike.of_ext HX.out HS.out))
   have Hxa := q_ (hxa.alike (Alike.of_ext HX.out HS.out))
   have Hx := q_ hx
   clear hx hxa hca hrow hcl hSb
   by_cases hlm : k < m.length
   ·obtain ⟨b', o', rfl, hSb', hrow'⟩ := HM.out (by omega)
    obtain ⟨y, hy⟩ : ∃ y, m[k]? = some y := ⟨_, List.getElem?_eq_getElem hlm⟩
    obtain ⟨cs', hcl', hca', hya⟩ := hrow'.get hy
    have Hcb := q_ (hca'.alike hSb' (Alike.of_ext HX.out HS.out))
    have Hyb := q_ (hya.alike (Alike.of_ext HX.out HS.out))
    have Hy := q_ hy
    clear hy hya hca' hrow' hcl' hSb'
    obtain ⟨k1, b1, n1, t1, ut1, ui1, A1, l1, c1, A2, l2, c2, rfl⟩ := Hxa.out.shape
    obtain ⟨k3, b3, n3, t3, ut3, ui3, A3, l3, c3, A4, l4, c4, rfl⟩ := Hyb.out.shape
    have f0 := zaa (show wr.cell? ⟨b, o + k * 8, none⟩ = some (.int .i64 k1) by simpa using Hca.out 0 _ rfl)
    have f1 := zaa (show wr.cell? ⟨b, o + k * 8 + 1, none⟩ = some (.bool b1) by simpa using Hca.out 1 _ rfl)
    have f2 := zaa (show wr.cell? ⟨b, o + k * 8 + 2, none⟩ = some (.int .i64 n1) by simpa using Hca.out 2 _ rfl)
    have f3 := zaa (show wr.cell? ⟨b, o + k * 8 + 3, none⟩ = some (.string t1) by simpa using Hca.out 3 _ rfl)
    have f4 := zaa (show wr.cell? ⟨b, o + k * 8 + 4, none⟩ = some (.string ut1) by simpa using Hca.out 4 _ rfl)
    have f5 := zaa (show wr.cell? ⟨b, o + k * 8 + 5, none⟩ = some (.string ui1) by simpa using Hca.out 5 _ rfl)
    have f6 := zaa (show wr.cell? ⟨b, o + k * 8 + 6, none⟩ = some (.slice A1 l1 c1) by simpa using Hca.out 6 _ rfl)
    have f7 := zaa (show wr.cell? ⟨b, o + k * 8 + 7, none⟩ = some (.slice A2 l2 c2) by simpa using Hca.out 7 _ rfl)
    have g0 := zaa (show wr.cell? ⟨b', o' + k * 8, none⟩ = some (.int .i64 k3) by simpa using Hcb.out 0 _ rfl)
    have g1 := zaa (show wr.cell? ⟨b', o' + k * 8 + 1, none⟩ = some (.bool b3) by simpa using Hcb.out 1 _ rfl)
    have g2 := zaa (show wr.cell? ⟨b', o' + k * 8 + 2, none⟩ = some (.int .i64 n3) by simpa using Hcb.out 2 _ rfl)
    have g3 := zaa (show wr.cell? ⟨b', o' + k * 8 + 3, none⟩ = some (.string t3) by simpa using Hcb.out 3 _ rfl)
    have g4 := zaa (show wr.cell? ⟨b', o' + k * 8 + 4, none⟩ = some (.string ut3) by simpa using Hcb.out 4 _ rfl)
    have g5 := zaa (show wr.cell? ⟨b', o' + k * 8 + 5, none⟩ = some (.string ui3) by simpa using Hcb.out 5 _ rfl)
    have g6 := zaa (show wr.cell? ⟨b', o' + k * 8 + 6, none⟩ = some (.slice A3 l3 c3) by simpa using Hcb.out 6 _ rfl)
    have g7 := zaa (show wr.cell? ⟨b', o' + k * 8 + 7, none⟩ = some (.slice A4 l4 c4) by simpa using Hcb.out 7 _ rfl)
    go_wp2_with fail
    refine zae (by kernel_rfl) (by kernel_rfl) ?_
    repeat (quiet_step ((go_at_call 139; exact zan (fun w1 hw1 => HC.out x (List.mem_of_getElem? Hx.out) y (List.mem_of_getElem? Hy.out) w1 [_, _, _, _, _, _, _, _] [_, _, _, _, _, _, _, _] (fun b hb => Nat.lt_of_lt_of_le (HSr.out b hb) hw1.size) (Hxa.out.alike (Alike.of_ext hw1 HSr.out)) (Hyb.out.alike (Alike.of_ext hw1 HSr.out))) _ _)))
    refine wpQuiet_nil ?_
    intro w2 hw2
    have HX2 := q_ hw2
    clear hw2 f0 f1 f2 f3 f4 f5 f6 f7 g0 g1 g2 g3 g4 g5 g6 g7
    go_wp2_with fail
    ·have hne : (x.ord y != 0) = true := by assumption
     go_ret
     exact ⟨zag (lexL_at Hx.out Hy.out Hall.out (by simpa using hne)).symm, HX.out.trans HX2.out⟩
    ·have hne : (x.ord y != 0) = false := by assumption
     go_roundw
     case rel => exact ⟨k + 1, by omega, by omega, by go_num, HX.out.trans HX2.out, fun i p q hi hp hq => by
      by_cases hik : i = k
      ·subst hik; rw [Hx.out] at hp; rw [Hy.out] at hq; cases hp; cases hq; simpa using hne
      ·exact Hall.out i p q (by omega) hp hq⟩
     case measure => simp [intOf]; omega
   ·have hke : k = m.length := by omega
    subst hke
    go_wp2_with (go_at_call 120; refine (ints_ok _ _ _).mono ?_; rintro e w' ⟨rfl, rfl⟩)
    go_ret
    exact ⟨zag (by rw [lexL_long (by omega) Hall.out, cmpI, if_neg (by omega), if_pos (by omega)]), HX.out⟩
  ·have hke : k = l.length := by omega
   subst hke
   go_wp2_with (go_at_call 120; refine (ints_ok _ _ _).mono ?_; rintro e w' ⟨rfl, rfl⟩)
   go_ret
   exact ⟨zag (by
    rw [zdv (by omega) Hall.out, cmpI]
    by_cases h : l.length < m.length
    ·rw [if_pos (by omega), if_pos h]
    ·rw [if_neg (by omega), if_neg (by omega), if_neg h]), HX.out⟩
end Go.Proofs.YtbkaffhbhimglaaGreat

/-
  What the reference's Order comes to: the same plain function as the program's. The conditions: none beyond each contract's own.
-/
namespace Go.Proofs.YtbkaffhbhimglaaGreat
open Go.RowKit
open Lib renaming hid → q_
set_option maxRecDepth 100000
set_option maxHeartbeats 1600000
theorem orderR6_ok (bo bo' : Bool) (i i' : Int) (t t' ut ut' ui ui' : ByteArray) (items items' : List Val) (names names' : List ByteArray) (S : Nat → Prop) (w : World) (A A2 B B2 : Option Addr) (cap cap2 bcap bcap2 : Nat)
  (hS : ∀ b, S b → b < w.heap.size) (ha : Val.At S w (.mk 6 bo i t ut ui items names) [.int .i64 6, .bool bo, .int .i64 i, .string t, .string ut, .string ui, .slice A items.length cap, .slice A2 names.length cap2]) (hb : Val.At S w (.mk 6 bo' i' t' ut' ui' items' names') [.int .i64 6, .bool bo', .int .i64 i', .string t', .string ut', .string ui', .slice B items'.length bcap, .slice B2 names'.length bcap2])
  (hc : ∀ x ∈ items, ∀ y ∈ items', ∀ (w1 : World) (cx cy : List Value), (∀ b, S b → b < w1.heap.size) → Val.At S w1 x cx → Val.At S w1 y cy →
   Calls Tryz.prog 139 #[.agg cx.toArray, .agg cy.toArray] w1 fun e w' => e = .returned (.int .i64 (x.ord y)) ∧ Ext w1 w') :
  Calls Tryz.prog 139 #[.agg #[.int .i64 6, .bool bo, .int .i64 i, .string t, .string ut, .string ui, .slice A items.length cap, .slice A2 names.length cap2], .agg #[.int .i64 6, .bool bo', .int .i64 i', .string t', .string ut', .string ui', .slice B items'.length bcap, .slice B2 names'.length bcap2]] w fun en w' =>
   en = .returned (.int .i64 (zeb (lexL cmpS names names') (lexL Val.ord (items.take names.length) (items'.take names'.length)))) ∧ Ext w w' := by
 have hva := ha.vals
 have hvb := hb.vals
 have hsa := ha.strs
 have hsb := hb.strs
 obtain ⟨_, _, e1, ⟨_, hi2, hi3⟩, _⟩ := id hva
 obtain ⟨_, _, e2, ⟨_, hj2, hj3⟩, _⟩ := id hvb
 injection e1 with q1 _ q2
 injection e2 with q3 _ q4
 subst q1 q2 q3 q4
 obtain ⟨_, _, e1, hn1, hn2, hn3, hns, hnr⟩ := id hsa
 obtain ⟨_, _, e2, hm1, hm2, hm3, hms, hmr⟩ := id hsb
 injection e1 with q1 _ q2
 injection e2 with q3 _ q4
 subst q1 q2 q3 q4
 rw [zak] at hn1 hm1
 rw [zab] at hi3 hj3 hn3 hm3
 have HVa := q_ hva
 have HVb := q_ hvb
 have HS := q_ hS
 have HC := q_ hc
 have HL := q_ hnr
 have HM := q_ hmr
 have HLs := q_ hns
 have HMs := q_ hms
 clear ha hb hva hvb hsa hsb hS hc hnr hmr hns hms
 go_enter Tryz.func139, Tryz.ntmps139
 go_wp2_with fail
 go_loopw [6] (fun z wr => ∃ k : Nat, k ≤ names.length ∧ k ≤ names'.length ∧ z = .int .i64 k ∧ wr.heap[w.heap.size]? = some (.cells #[.int .i64 6, .bool bo, .int .i64 i, .string t, .string ut, .string ui, .slice A items.length cap, .slice A2 names.length cap2] 46 (0, 0)) ∧ wr.heap[w.heap.size + 1]? = some (.cells #[.int .i64 6, .bool bo', .int .i64 i', .string t', .string ut', .string ui', .slice B items'.length bcap, .slice B2 names'.length bcap2] 46 (0, 0)) ∧ Ext w wr ∧
   Hid (∀ i x y, i < k → names[i]? = some x → names'[i]? = some y → cmpS x y = 0)) (fun z _ => names.length - (intOf z).toNat)
 case atStart => exact ⟨0, Nat.zero_le _, Nat.zero_le _, rfl, by rw [Below.heap_alloc _ _ _ (by simp)]; exact heap_alloc_new _ _, by simpa using heap_alloc_new (w.alloc _) _, ((Ext.refl w).alloc _).alloc _, fun _ _ _ h => by omega⟩
 case round =>
  obtain ⟨k, hk, hkm, rfl, hb1, hb2, hext, Hall⟩ := hrel
  have HX := q_ hext
  have HSr := q_ (show ∀ b, S b → b < wr.heap.size from fun b hb => Nat.lt_of_lt_of_le (HS.out b hb) hext.size)
  have HB1 := q_ hb1
  have HB2 := q_ hb2
  clear hext hb1 hb2
  have p7 : wr.cell? ⟨w.heap.size, 7, none⟩ = some (.slice A2 names.length cap2) := by rw [cell_of_row _ _ _ _ _ _ HB1.out]; rfl
  have q7 : wr.cell? ⟨w.heap.size + 1, 7, none⟩ = some (.slice B2 names'.length bcap2) := by rw [cell_of_row _ _ _ _ _ _ HB2.out]; rfl
  by_cases hlt : k < names.length
  ·obtain ⟨b, o, rfl, hSb, hrow⟩ := HL.out (by omega)
   obtain ⟨x, hx⟩ : ∃ x, names[k]? = some x := ⟨_, List.getElem?_eq_getElem hlt⟩
   have hcx : wr.cell? ⟨b, o + k, none⟩ = some (.string x) := hrow.alike hSb (Alike.of_ext HX.out HS.out) k (.string x) (by simp [hx])
   have Hx := q_ hx
   clear hx hrow hSb
   by_cases hlm : k < names'.length
   ·obtain ⟨b', o', rfl, hSb', hrow'⟩ := HM.out (by omega)
    obtain ⟨y, hy⟩ : ∃ y, names'[k]? = some y := ⟨_, List.getElem?_eq_getElem hlm⟩
    have hcy : wr.cell? ⟨b', o' + k, none⟩ = some (.string y) := hrow'.alike hSb' (Alike.of_ext HX.out HS.out) k (.string y) (by simp [hy])
    have Hy := q_ hy
    clear hy hrow' hSb'
    have r1 := zaa hcx
    have r2 := zaa hcy
    have r3 := zaa p7
    have r4 := zaa q7
    go_wp2_with fail
    refine zae (by kernel_rfl) (by kernel_rfl) ?_
    repeat (quiet_step ((go_at_call 91; exact zan (fun w1 hw1 => zc9 x y w1 (HLs.out x (List.mem_of_getElem? Hx.out)) (HMs.out y (List.mem_of_getElem? Hy.out))) _ _)))
    refine wpQuiet_nil ?_
    intro w2 hw2
    have HX2 := q_ hw2
    clear hw2 r1 r2 r3 r4
    go_wp2_with fail
    ·have hne : (cmpS x y != 0) = true := by assumption
     go_ret
     exact ⟨zag (by rw [lexL_at Hx.out Hy.out Hall.out (by simpa using hne), zeb, if_neg (by simpa using hne)]), HX.out.trans HX2.out⟩
    ·have hne : (cmpS x y != 0) = false := by assumption
     go_roundw
     case rel => exact ⟨k + 1, by omega, by omega, by go_num, (HX2.out.block _ (zad HB1.out)).trans HB1.out, (HX2.out.block _ (zad HB2.out)).trans HB2.out, HX.out.trans HX2.out, fun i p q hi hp hq => by
      by_cases hik : i = k
      ·subst hik; rw [Hx.out] at hp; rw [Hy.out] at hq; cases hp; cases hq; simpa using hne
      ·exact Hall.out i p q (by omega) hp hq⟩
     case measure => simp [intOf]; omega
   ·have hke : k = names'.length := by omega
    subst hke
    have e0 : ((names.length : Int) != names'.length) = true := by simp; omega
    go_wp2_with (go_at_call 120; refine (ints_ok _ _ _).mono ?_; rintro e w' ⟨rfl, rfl⟩)
    go_ret
    exact ⟨zag (by rw [lexL_long (by omega) Hall.out, cmpI, if_neg (by omega), if_pos (by omega)]; rfl), HX.out⟩
  ·have hke : k = names.length := by omega
   subst hke
   by_cases hne : names.length = names'.length
   ·have hnm : lexL cmpS names names' = 0 := by rw [zdv (by omega) Hall.out, if_neg (by omega)]
    have Hnm := q_ hnm
    have e0 : ((names.length : Int) != names'.length) = false := by simp; omega
    have HE := q_ hne
    clear hnm hne
    go_wp2_with fail
    have c0 := zaa (show wr.cell? ⟨w.heap.size, 0, none⟩ = some (.int .i64 6) by rw [cell_of_row _ _ _ _ _ _ HB1.out]; rfl)
    have c1 := zaa (show wr.cell? ⟨w.heap.size, 1, none⟩ = some (.bool bo) by rw [cell_of_row _ _ _ _ _ _ HB1.out]; rfl)
    have c2 := zaa (show wr.cell? ⟨w.heap.size, 2, none⟩ = some (.int .i64 i) by rw [cell_of_row _ _ _ _ _ _ HB1.out]; rfl)
    have c3 := zaa (show wr.cell? ⟨w.heap.size, 3, none⟩ = some (.string t) by rw [cell_of_row _ _ _ _ _ _ HB1.out]; rfl)
    have c4 := zaa (show wr.cell? ⟨w.heap.size, 4, none⟩ = some (.string ut) by rw [cell_of_row _ _ _ _ _ _ HB1.out]; rfl)
    have c5 := zaa (show wr.cell? ⟨w.heap.size, 5, none⟩ = some (.string ui) by rw [cell_of_row _ _ _ _ _ _ HB1.out]; rfl)
    have c6 := zaa (show wr.cell? ⟨w.heap.size, 6, none⟩ = some (.slice A items.length cap) by rw [cell_of_row _ _ _ _ _ _ HB1.out]; rfl)
    have c7 := zaa (show wr.cell? ⟨w.heap.size, 7, none⟩ = some (.slice A2 names.length cap2) by rw [cell_of_row _ _ _ _ _ _ HB1.out]; rfl)
    have d0 := zaa (show wr.cell? ⟨w.heap.size + 1, 0, none⟩ = some (.int .i64 6) by rw [cell_of_row _ _ _ _ _ _ HB2.out]; rfl)
    have d1 := zaa (show wr.cell? ⟨w.heap.size + 1, 1, none⟩ = some (.bool bo') by rw [cell_of_row _ _ _ _ _ _ HB2.out]; rfl)
    have d2 := zaa (show wr.cell? ⟨w.heap.size + 1, 2, none⟩ = some (.int .i64 i') by rw [cell_of_row _ _ _ _ _ _ HB2.out]; rfl)
    have d3 := zaa (show wr.cell? ⟨w.heap.size + 1, 3, none⟩ = some (.string t') by rw [cell_of_row _ _ _ _ _ _ HB2.out]; rfl)
    have d4 := zaa (show wr.cell? ⟨w.heap.size + 1, 4, none⟩ = some (.string ut') by rw [cell_of_row _ _ _ _ _ _ HB2.out]; rfl)
    have d5 := zaa (show wr.cell? ⟨w.heap.size + 1, 5, none⟩ = some (.string ui') by rw [cell_of_row _ _ _ _ _ _ HB2.out]; rfl)
    have d6 := zaa (show wr.cell? ⟨w.heap.size + 1, 6, none⟩ = some (.slice B items'.length bcap) by rw [cell_of_row _ _ _ _ _ _ HB2.out]; rfl)
    have d7 := zaa (show wr.cell? ⟨w.heap.size + 1, 7, none⟩ = some (.slice B2 names'.length bcap2) by rw [cell_of_row _ _ _ _ _ _ HB2.out]; rfl)
    have q2 : ∀ d os, Calls Tryz.prog 153 #[.slice A (min items.length names.length) cap, .slice B (min items'.length names'.length) bcap] (Sort.grow (redrawn wr d) os) fun e w'' => e = .returned (.int .i64 (lexL Val.ord (items.take names.length) (items'.take names'.length))) ∧ ∃ p : Regrown, w'' = Sort.grow (redrawn wr p.d) p.os := fun d os =>
     Calls.regrown_of (rows_ok S _ _ _ _ _ (fun b hb => Nat.lt_of_lt_of_le (HSr.out b hb) (za2 wr d os).size) ((HVa.out.take names.length).alike (Alike.of_ext (HX.out.trans (za2 wr d os)) HS.out)) ((HVb.out.take names'.length).alike (Alike.of_ext (HX.out.trans (za2 wr d os)) HS.out)) (fun x hx y hy w1 cx cy hs1 hx1 hy1 => HC.out x (List.mem_of_mem_take hx) y (List.mem_of_mem_take hy) w1 cx cy hs1 hx1 hy1))
    have Q2 := q_ q2
    clear q2
    refine zae (by kernel_rfl) (by kernel_rfl) ?_
    repeat (quiet_step (first | (go_at_call 153; exact Q2.out _ _) | (go_at_call 154; exact zan (fun w1 _ => namedR_ok _ _ _ _ _ _ _ _ _ _ _ _ w1 (by assumption) (by rw [zab]; assumption) (by rw [zab]; omega)) _ _)))
    refine wpQuiet_nil ?_
    intro w2 hw2
    have HX2 := q_ hw2
    clear hw2 c0 c1 c2 c3 c4 c5 c6 c7 d0 d1 d2 d3 d4 d5 d6 d7
    go_wp2_with fail
    go_ret
    exact ⟨zag (by rw [Hnm.out]; rfl), HX.out.trans HX2.out⟩
   ·have e0 : ((names.length : Int) != names'.length) = true := by simp; omega
    have hlt2 : names.length < names'.length := by omega
    clear hne
    go_wp2_with (go_at_call 120; refine (ints_ok _ _ _).mono ?_; rintro e w' ⟨rfl, rfl⟩)
    go_ret
    exact ⟨zag (by rw [zdv (by omega) Hall.out, cmpI, if_pos (by omega), if_pos (by omega)]; rfl), HX.out⟩
theorem orderR_ok (n : Nat) : ∀ (a b : Val) (S : Nat → Prop) (w : World) (ca cb : List Value), SizeOf.sizeOf a ≤ n → (∀ b, S b → b < w.heap.size) → Val.At S w a ca → Val.At S w b cb →
  Calls Tryz.prog 139 #[.agg ca.toArray, .agg cb.toArray] w fun en w' => en = .returned (.int .i64 (a.ord b)) ∧ Ext w w' := by
 induction n with
 | zero => intro a; cases a; simp
 | succ n ih =>
  intro a b S w ca cb hn hS ha hb
  have Ha := q_ ha
  have Hb := q_ hb
  have HS := q_ hS
  have Hn := q_ hn
  have IH := q_ ih
  have Hd := q_ (Val.ord_def a b)
  cases a with
  | mk k bo i t ut ui items names =>
  cases b with
  | mk k' bo' i' t' ut' ui' items' names' =>
  unfold Val.At at ha hb
  obtain ⟨A, cap, nv, rfl, ⟨_, _, hat, haut, haui⟩, ⟨ha1, ha2, ha3⟩, hai, A2, cap2, rfl, ha4, ha5, ha6, ha7, han⟩ := ha
  obtain ⟨B, bcap, nv, rfl, ⟨_, _, hbt, hbut, hbui⟩, ⟨hb1, hb2, hb3⟩, hbi, B2, bcap2, rfl, hb4, hb5, hb6, hb7, hbn⟩ := hb
  rw [zak] at ha1 hb1 ha4 hb4
  rw [zab] at ha3 hb3 ha6 hb6
  have HT := q_ (And.intro hat (And.intro haut haui))
  have HT' := q_ (And.intro hbt (And.intro hbut hbui))
  clear hai hbi han hbn ha7 hb7 hS hn ih hat haut haui hbt hbut hbui
  by_cases hkk : k = k'
  ·subst hkk
   by_cases h1 : k = 1
   ·subst h1
    cases bo <;> cases bo'
    all_goals
     go_enter Tryz.func139, Tryz.ntmps139
     go_wp2_with fail
     go_ret
     exact ⟨zag (by rw [Hd.out]; rfl), ((Ext.refl w).alloc _).alloc _⟩
   by_cases h2 : k = 2
   ·subst h2
    go_enter Tryz.func139, Tryz.ntmps139
    go_wp2_with (go_at_call 120; refine (ints_ok _ _ _).mono ?_; rintro e w' ⟨rfl, rfl⟩)
    go_ret
    exact ⟨zag (by rw [Hd.out]; rfl), ((Ext.refl w).alloc _).alloc _⟩
   by_cases h3 : k = 3
   ·subst h3
    go_enter Tryz.func139, Tryz.ntmps139
    go_wp2_with (go_at_call 91; refine (zc9 _ _ _ HT.out.1 HT'.out.1).mono ?_; rintro e w' ⟨rfl, hx2⟩; have HX2 := q_ hx2; clear hx2)
    go_ret
    exact ⟨zag (by rw [Hd.out]; rfl), (((Ext.refl w).alloc _).alloc _).trans HX2.out⟩
   by_cases h4 : k = 4
   ·subst h4
    by_cases hz : cmpS ut ut' = 0
    ·have e0 : (cmpS ut ut' != 0) = false := by simp [hz]
     have Hz := q_ hz
     clear hz
     go_enter Tryz.func139, Tryz.ntmps139
     go_wp2_with fail
     refine (zc9 ut ut' _ HT.out.2.1 HT'.out.2.1).mono ?_
     rintro e w' ⟨rfl, hx2⟩
     have c5 : w'.cell? ⟨w.heap.size, 5, none⟩ = some (.string ui) := by rw [hx2.cell (by simp; omega)]; go_simp
     have d5 : w'.cell? ⟨w.heap.size + 1, 5, none⟩ = some (.string ui') := by rw [hx2.cell (by simp)]; go_simp
     have HX2 := q_ hx2
     clear hx2
     go_wp2_with fail
     refine (zc9 ui ui' _ HT.out.2.2 HT'.out.2.2).mono ?_
     rintro e w3 ⟨rfl, hx3⟩
     have HX3 := q_ hx3
     clear hx3
     go_wp2_with fail
     go_ret
     exact ⟨zag (by rw [Hd.out]; show _ = zeb (cmpS ut ut') (cmpS ui ui'); rw [zeb, if_pos Hz.out]), ((((Ext.refl w).alloc _).alloc _).trans HX2.out).trans HX3.out⟩
    ·have e0 : (cmpS ut ut' != 0) = true := by simp [hz]
     have Hz := q_ hz
     clear hz
     go_enter Tryz.func139, Tryz.ntmps139
     go_wp2_with fail
     refine (zc9 ut ut' _ HT.out.2.1 HT'.out.2.1).mono ?_
     rintro e w' ⟨rfl, hx2⟩
     have HX2 := q_ hx2
     clear hx2
     go_wp2_with fail
     go_ret
     exact ⟨zag (by rw [Hd.out]; show _ = zeb (cmpS ut ut') (cmpS ui ui'); rw [zeb, if_neg Hz.out]), (((Ext.refl w).alloc _).alloc _).trans HX2.out⟩
   by_cases h5 : k = 5
   ·subst h5
    go_enter Tryz.func139, Tryz.ntmps139
    go_wp2_with (go_at_call 153; refine (rows_ok S items items' _ _ _ (fun b hb => Nat.lt_of_lt_of_le (HS.out b hb) (((Ext.refl w).alloc _).alloc _).size) (Ha.out.vals.alike (Alike.of_ext (((Ext.refl w).alloc _).alloc _) HS.out)) (Hb.out.vals.alike (Alike.of_ext (((Ext.refl w).alloc _).alloc _) HS.out)) (fun x hx y _ w1 cx cy hs1 hx1 hy1 => IH.out x y S w1 cx cy (by have := Hn.out; have := List.sizeOf_lt_of_mem hx; simp at *; omega) hs1 hx1 hy1)).mono ?_; rintro e w' ⟨rfl, hx2⟩; have HX2 := q_ hx2; clear hx2)
    go_ret
    exact ⟨zag (by rw [Hd.out]; rfl), (((Ext.refl w).alloc _).alloc _).trans HX2.out⟩
   by_cases h6 : k = 6
   ·subst h6
    refine (orderR6_ok bo bo' i i' t t' ut ut' ui ui' items items' names names' S w A A2 B B2 cap cap2 bcap bcap2 HS.out Ha.out Hb.out (fun x hx y _ w1 cx cy hs1 hx1 hy1 => IH.out x y S w1 cx cy (by have := Hn.out; have := List.sizeOf_lt_of_mem hx; simp at *; omega) hs1 hx1 hy1)).mono ?_
    rintro e w' ⟨rfl, hx⟩
    exact ⟨zag (by rw [Hd.out]; rfl), hx⟩
   have e1 : (k == 1) = false := by simpa using h1
   have e2 : (k == 2) = false := by simpa using h2
   have e3 : (k == 3) = false := by simpa using h3
   have e4 : (k == 4) = false := by simpa using h4
   have e5 : (k == 5) = false := by simpa using h5
   have e6 : (k == 6) = false := by simpa using h6
   have HK := q_ (And.intro h1 (And.intro h2 (And.intro h3 (And.intro h4 (And.intro h5 h6)))))
   clear h1 h2 h3 h4 h5 h6
   go_enter Tryz.func139, Tryz.ntmps139
   go_wp2_with fail
   go_ret
   obtain ⟨h1, h2, h3, h4, h5, h6⟩ := HK.out
   exact ⟨zag (by rw [Hd.out]; simp [Val.kind, h1, h2, h3, h4, h5, h6]), ((Ext.refl w).alloc _).alloc _⟩
  ·have e0 : (k != k') = true := by simpa using hkk
   have Hk := q_ hkk
   clear hkk
   go_enter Tryz.func139, Tryz.ntmps139
   go_wp2_with (go_at_call 120; refine (ints_ok _ _ _).mono ?_; rintro e w' ⟨rfl, rfl⟩)
   go_ret
   exact ⟨zag (by rw [Hd.out]; simp [Val.kind, Hk.out]), ((Ext.refl w).alloc _).alloc _⟩
end Go.Proofs.YtbkaffhbhimglaaGreat

/-
  Whether two values are the same, field by field: what the reference's comparison comes to. The conditions: none beyond the contract's own.
-/
namespace Go.Proofs.YtbkaffhbhimglaaGreat
open Go.RowKit
open Lib renaming hid → q_
set_option maxRecDepth 100000
set_option maxHeartbeats 1600000
noncomputable def eqB {α : Type} (a b : α) : Bool := @decide (a = b) (Classical.propDecidable _)
theorem eqB_true {α : Type} {a b : α} : eqB a b = true ↔ a = b := by unfold eqB; simp
theorem eqB_false {α : Type} {a b : α} : eqB a b = false ↔ a ≠ b := by unfold eqB; simp
def BoxIs (w : World) (g : Nat) (T : TypeId) (a b : Value) : Prop := ∃ v0 v1 v2 v3 v4 v5, w.heap[g]? = some (.cells #[v0, v1, v2, v3, v4, v5, a, b] T (0, 0))
theorem BoxIs.c6 {w : World} {g : Nat} {T : TypeId} {a b : Value} (h : BoxIs w g T a b) : w.cell? ⟨g, 6, none⟩ = some a := by
 obtain ⟨_, _, _, _, _, _, h⟩ := h; rw [cell_of_row _ _ _ _ _ _ h]; rfl
theorem BoxIs.c7 {w : World} {g : Nat} {T : TypeId} {a b : Value} (h : BoxIs w g T a b) : w.cell? ⟨g, 7, none⟩ = some b := by
 obtain ⟨_, _, _, _, _, _, h⟩ := h; rw [cell_of_row _ _ _ _ _ _ h]; rfl
theorem BoxIs.ext {w w' : World} {g : Nat} {T : TypeId} {a b : Value} (h : BoxIs w g T a b) (k : Ext w w') : BoxIs w' g T a b := by
 obtain ⟨v0, v1, v2, v3, v4, v5, h⟩ := h; exact ⟨v0, v1, v2, v3, v4, v5, (k.block _ (zad h)).trans h⟩
theorem whole_ok (n : Nat) : ∀ (a b : Val) (S : Nat → Prop) (w : World) (ca cb : List Value), SizeOf.sizeOf a ≤ n → (∀ b, S b → b < w.heap.size) → Val.At S w a ca → Val.At S w b cb →
  Calls Tryz.prog 37 #[.agg ca.toArray, .agg cb.toArray] w fun en w' => en = .returned (.bool (eqB a b)) ∧ Ext w w' := by
 induction n with
 | zero => intro a; cases a; simp
 | succ n ih =>
  intro a b S w ca cb hn hS ha hb
  have Ha := q_ ha
  have Hb := q_ hb
  have HS := q_ hS
  have Hn := q_ hn
  have IH := q_ ih
  cases a with
  | mk k bo i t ut ui items names =>
  cases b with
  | mk k' bo' i' t' ut' ui' items' names' =>
  unfold Val.At at ha hb
  obtain ⟨A, cap, nv, rfl, _, ⟨ha1, ha2, ha3⟩, hai, A2, cap2, rfl, ha4, ha5, ha6, ha7, han⟩ := ha
  obtain ⟨B, bcap, nv, rfl, _, ⟨hb1, hb2, hb3⟩, hbi, B2, bcap2, rfl, hb4, hb5, hb6, hb7, hbn⟩ := hb
  rw [zak] at ha1 hb1 ha4 hb4
  rw [zab] at ha3 hb3 ha6 hb6
  have Hai := q_ hai
  have Hbi := q_ hbi
  have Han := q_ han
  have Hbn := q_ hbn
  clear hai hbi han hbn ha7 hb7 hS hn ih
  by_cases hq : (k = k' ∧ bo = bo' ∧ i = i' ∧ t = t' ∧ ut = ut' ∧ ui = ui') ∧ items.length = items'.length ∧ names.length = names'.length
  case neg =>
   have HQ := q_ hq
   clear hq
   go_enter Tryz.func37, Tryz.ntmps37
   go_wp2_with fail
   case' _ => skip
   rotate_left 1
   ·exfalso
    have q1 : k = k' := by assumption
    have q2 : bo = bo' := by assumption
    have q3 : i = i' := by assumption
    have q4 : t.toList = t'.toList := by assumption
    have q5 : ut.toList = ut'.toList := by assumption
    have q6 : ui.toList = ui'.toList := by assumption
    have q7 : (items.length : Int) = items'.length := by assumption
    have q8 : ((names.length : Int) != names'.length) = false := by assumption
    exact HQ.out ⟨⟨q1, q2, q3, zbs q4, zbs q5, zbs q6⟩, by omega, by simp at q8; omega⟩
   all_goals
    go_ret
    exact ⟨zal (eqB_false.2 (fun hh => HQ.out (by injection hh; simp_all))).symm, ((Ext.refl w).alloc _).alloc _⟩
  ·obtain ⟨⟨rfl, rfl, rfl, rfl, rfl, rfl⟩, q7, q8⟩ := hq
   have HLi := q_ q7
   have HLn := q_ q8
   have e1 : ((items.length : Int) != items'.length) = false := by simp; omega
   have e2 : ((names.length : Int) != names'.length) = false := by simp; omega
   clear q7 q8
   go_enter Tryz.func37, Tryz.ntmps37
   go_wp2_with fail
   go_loopw [5] (fun z wr => ∃ y : Nat, y ≤ names.length ∧ z = .int .i64 y ∧ BoxIs wr w.heap.size 46 (.slice A items.length cap) (.slice A2 names.length cap2) ∧ BoxIs wr (w.heap.size + 1) 46 (.slice B items'.length bcap) (.slice B2 names'.length bcap2) ∧ Ext w wr ∧
     Hid (∀ i x y', i < y → names[i]? = some x → names'[i]? = some y' → x = y')) (fun z _ => names.length - (intOf z).toNat)
   case atStart => exact ⟨0, Nat.zero_le _, rfl, ⟨_, _, _, _, _, _, by rw [Below.heap_alloc _ _ _ (by simp)]; exact heap_alloc_new _ _⟩, ⟨_, _, _, _, _, _, by simpa using heap_alloc_new (w.alloc _) _⟩, ((Ext.refl w).alloc _).alloc _, fun _ _ _ h => by omega⟩
   case round =>
    obtain ⟨z, hz, rfl, hb1', hb2', hext, Hall⟩ := hrel
    have HX := q_ hext
    have HB1 := q_ hb1'
    have HB2 := q_ hb2'
    clear hext hb1' hb2'
    have p7 : wr.cell? ⟨w.heap.size, 7, none⟩ = some (.slice A2 names.length cap2) := HB1.out.c7
    have r7 : wr.cell? ⟨w.heap.size + 1, 7, none⟩ = some (.slice B2 names'.length bcap2) := HB2.out.c7
    by_cases hlt : z < names.length
    ·obtain ⟨b, o, rfl, hSb, hrow⟩ := Han.out (by omega)
     obtain ⟨x, hx⟩ : ∃ x, names[z]? = some x := ⟨_, List.getElem?_eq_getElem hlt⟩
     have hcx : wr.cell? ⟨b, o + z, none⟩ = some (.string x) := hrow.alike hSb (Alike.of_ext HX.out HS.out) z (.string x) (by simp [hx])
     have hlm : z < names'.length := by rw [← HLn.out]; exact hlt
     obtain ⟨b', o', rfl, hSb', hrow'⟩ := Hbn.out (by omega)
     obtain ⟨y, hy⟩ : ∃ y, names'[z]? = some y := ⟨_, List.getElem?_eq_getElem hlm⟩
     have hcy : wr.cell? ⟨b', o' + z, none⟩ = some (.string y) := hrow'.alike hSb' (Alike.of_ext HX.out HS.out) z (.string y) (by simp [hy])
     have Hx := q_ hx
     have Hy := q_ hy
     clear hx hrow hSb hy hrow' hSb'
     have r1 := zaa hcx
     have r2 := zaa hcy
     have r3 := zaa p7
     have r4 := zaa r7
     go_wp2_with fail
     refine zae (by kernel_rfl) (by kernel_rfl) ?_
     repeat (quiet_step (fail))
     refine wpQuiet_nil ?_
     intro w2 hw2
     have HX2 := q_ hw2
     clear hw2 r1 r2 r3 r4
     go_wp2_with fail
     ·have hne : (!x.toList == y.toList) = true := by assumption
      go_ret
      exact ⟨zal (eqB_false.2 (fun hh => by
       injection hh with _ _ _ _ _ _ _ hh
       have h1 := Hx.out
       rw [hh, Hy.out] at h1
       injection h1 with h1
       subst h1
       simp at hne)).symm, HX.out.trans HX2.out⟩
     ·have hne : (!x.toList == y.toList) = false := by assumption
      have hall' : ∀ i p q, i < z + 1 → names[i]? = some p → names'[i]? = some q → p = q := fun i p q hi hp hq => by
       by_cases hik : i = z
       ·subst hik; rw [Hx.out] at hp; rw [Hy.out] at hq; cases hp; cases hq; exact zbs (by simpa using hne)
       ·exact Hall.out i p q (by omega) hp hq
      go_roundw
      case rel => first | exact ⟨z + 1, by omega, by go_num, HB1.out.ext HX2.out, HB2.out.ext HX2.out, HX.out.trans HX2.out, hall'⟩ | ((repeat apply Exists.intro); exact ⟨⟨z + 1, by omega, by go_num, HB1.out.ext HX2.out, HB2.out.ext HX2.out, HX.out.trans HX2.out, hall'⟩, rfl⟩)
      case measure => simp [intOf]; omega
    ·have hzn : z = names.length := by omega
     have HN := q_ (show names = names' from List.ext_getElem? fun i => by
      by_cases hi : i < names.length
      ·have h1 := Hall.out i names[i] (names'[i]'(by rw [← HLn.out]; exact hi)) (by omega) (List.getElem?_eq_getElem hi) (List.getElem?_eq_getElem _)
       rw [List.getElem?_eq_getElem hi, List.getElem?_eq_getElem (by rw [← HLn.out]; exact hi), h1]
      ·rw [List.getElem?_eq_none (by omega), List.getElem?_eq_none (by rw [← HLn.out]; omega)])
     clear hzn Hall
     go_wp2_with fail
     obtain ⟨wo, hwo⟩ : ∃ wo : World, wo = wr := ⟨_, rfl⟩
     subst hwo
     go_loopw [6] (fun z wr => ∃ y : Nat, y ≤ items.length ∧ z = .int .i64 y ∧ BoxIs wr w.heap.size 46 (.slice A items.length cap) (.slice A2 names.length cap2) ∧ BoxIs wr (w.heap.size + 1) 46 (.slice B items'.length bcap) (.slice B2 names'.length bcap2) ∧ Ext w wr ∧
       Hid (∀ i x y', i < y → items[i]? = some x → items'[i]? = some y' → x = y')) (fun z _ => items.length - (intOf z).toNat)
     case atStart => exact ⟨0, Nat.zero_le _, rfl, HB1.out, HB2.out, HX.out, fun _ _ _ h => by omega⟩
     case round =>
      clear HX HB1 HB2 p7 r7 hlt hz
      obtain ⟨z, hz, rfl, hb1', hb2', hext, Hall⟩ := hrel
      have HX := q_ hext
      have HB1 := q_ hb1'
      have HB2 := q_ hb2'
      have HSr := q_ (show ∀ b, S b → b < wr.heap.size from fun b hb => Nat.lt_of_lt_of_le (HS.out b hb) hext.size)
      clear hext hb1' hb2'
      have p7 : wr.cell? ⟨w.heap.size, 6, none⟩ = some (.slice A items.length cap) := HB1.out.c6
      have r7 : wr.cell? ⟨w.heap.size + 1, 6, none⟩ = some (.slice B items'.length bcap) := HB2.out.c6
      by_cases hlt : z < items.length
      ·obtain ⟨b, o, rfl, hSb, hrow⟩ := Hai.out (by omega)
       obtain ⟨x, hx⟩ : ∃ x, items[z]? = some x := ⟨_, List.getElem?_eq_getElem hlt⟩
       obtain ⟨cs, hcl, hca, hxa⟩ := hrow.get hx
       have hlm : z < items'.length := by rw [← HLi.out]; exact hlt
       obtain ⟨b', o', rfl, hSb', hrow'⟩ := Hbi.out (by omega)
       obtain ⟨y, hy⟩ : ∃ y, items'[z]? = some y := ⟨_, List.getElem?_eq_getElem hlm⟩
       obtain ⟨cs', hcl', hca', hya⟩ := hrow'.get hy
       have Hca := q_ (hca.alike hSb (Alike.of_ext HX.out HS.out))
       have Hxa := q_ (hxa.alike (Alike.of_ext HX.out HS.out))
       have Hcb := q_ (hca'.alike hSb' (Alike.of_ext HX.out HS.out))
       have Hyb := q_ (hya.alike (Alike.of_ext HX.out HS.out))
       have Hx := q_ hx
       have Hy := q_ hy
       clear hx hxa hca hrow hcl hSb hy hya hca' hrow' hcl' hSb'
       obtain ⟨k1, b1, n1, t1, ut1, ui1, A1, l1, c1, A3, l3, c3, rfl⟩ := Hxa.out.shape
       obtain ⟨k2, b2, n2, t2, ut2, ui2, A4, l4, c4, A5, l5, c5, rfl⟩ := Hyb.out.shape
       have f0 := zaa (show wr.cell? ⟨b, o + z * 8, none⟩ = some (.int .i64 k1) by simpa using Hca.out 0 _ rfl)
       have f1 := zaa (show wr.cell? ⟨b, o + z * 8 + 1, none⟩ = some (.bool b1) by simpa using Hca.out 1 _ rfl)
       have f2 := zaa (show wr.cell? ⟨b, o + z * 8 + 2, none⟩ = some (.int .i64 n1) by simpa using Hca.out 2 _ rfl)
       have f3 := zaa (show wr.cell? ⟨b, o + z * 8 + 3, none⟩ = some (.string t1) by simpa using Hca.out 3 _ rfl)
       have f4 := zaa (show wr.cell? ⟨b, o + z * 8 + 4, none⟩ = some (.string ut1) by simpa using Hca.out 4 _ rfl)
       have f5 := zaa (show wr.cell? ⟨b, o + z * 8 + 5, none⟩ = some (.string ui1) by simpa using Hca.out 5 _ rfl)
       have f6 := zaa (show wr.cell? ⟨b, o + z * 8 + 6, none⟩ = some (.slice A1 l1 c1) by simpa using Hca.out 6 _ rfl)
       have f7 := zaa (show wr.cell? ⟨b, o + z * 8 + 7, none⟩ = some (.slice A3 l3 c3) by simpa using Hca.out 7 _ rfl)
       have g0 := zaa (show wr.cell? ⟨b', o' + z * 8, none⟩ = some (.int .i64 k2) by simpa using Hcb.out 0 _ rfl)
       have g1 := zaa (show wr.cell? ⟨b', o' + z * 8 + 1, none⟩ = some (.bool b2) by simpa using Hcb.out 1 _ rfl)
       have g2 := zaa (show wr.cell? ⟨b', o' + z * 8 + 2, none⟩ = some (.int .i64 n2) by simpa using Hcb.out 2 _ rfl)
       have g3 := zaa (show wr.cell? ⟨b', o' + z * 8 + 3, none⟩ = some (.string t2) by simpa using Hcb.out 3 _ rfl)
       have g4 := zaa (show wr.cell? ⟨b', o' + z * 8 + 4, none⟩ = some (.string ut2) by simpa using Hcb.out 4 _ rfl)
       have g5 := zaa (show wr.cell? ⟨b', o' + z * 8 + 5, none⟩ = some (.string ui2) by simpa using Hcb.out 5 _ rfl)
       have g6 := zaa (show wr.cell? ⟨b', o' + z * 8 + 6, none⟩ = some (.slice A4 l4 c4) by simpa using Hcb.out 6 _ rfl)
       have g7 := zaa (show wr.cell? ⟨b', o' + z * 8 + 7, none⟩ = some (.slice A5 l5 c5) by simpa using Hcb.out 7 _ rfl)
       have r3 := zaa p7
       have r4 := zaa r7
       go_wp2_with fail
       refine zae (by kernel_rfl) (by kernel_rfl) ?_
       repeat (quiet_step ((go_at_call 37; exact zan (fun w1 hw1 => IH.out x y S w1 [_, _, _, _, _, _, _, _] [_, _, _, _, _, _, _, _] (by have := Hn.out; have := Val.size_get Hx.out; simp at *; omega) (fun b hb => Nat.lt_of_lt_of_le (HSr.out b hb) hw1.size) (Hxa.out.alike (Alike.of_ext hw1 HSr.out)) (Hyb.out.alike (Alike.of_ext hw1 HSr.out))) _ _)))
       refine wpQuiet_nil ?_
       intro w2 hw2
       have HX2 := q_ hw2
       clear hw2 f0 f1 f2 f3 f4 f5 f6 f7 g0 g1 g2 g3 g4 g5 g6 g7 r3 r4
       go_wp2_with fail
       ·have hne : (!eqB x y) = true := by assumption
        go_ret
        exact ⟨zal (eqB_false.2 (fun hh => by
         injection hh with _ _ _ _ _ _ hh
         have h1 := Hx.out
         rw [hh, Hy.out] at h1
         injection h1 with h1
         simp [h1, eqB_true.2] at hne)).symm, HX.out.trans HX2.out⟩
       ·have hne : (!eqB x y) = false := by assumption
        have hall' : ∀ i p q, i < z + 1 → items[i]? = some p → items'[i]? = some q → p = q := fun i p q hi hp hq => by
         by_cases hik : i = z
         ·subst hik; rw [Hx.out] at hp; rw [Hy.out] at hq; cases hp; cases hq; exact eqB_true.1 (by simpa using hne)
         ·exact Hall.out i p q (by omega) hp hq
        go_roundw
        case rel => first | exact ⟨z + 1, by omega, by go_num, HB1.out.ext HX2.out, HB2.out.ext HX2.out, HX.out.trans HX2.out, hall'⟩ | ((repeat apply Exists.intro); exact ⟨⟨z + 1, by omega, by go_num, HB1.out.ext HX2.out, HB2.out.ext HX2.out, HX.out.trans HX2.out, hall'⟩, rfl⟩)
        case measure => simp [intOf]; omega
      ·go_wp2_with fail
       go_ret
       refine ⟨zal (eqB_true.2 ?_).symm, HX.out⟩
       have hi : items = items' := List.ext_getElem? fun i => by
        by_cases hi : i < items.length
        ·have h1 := Hall.out i items[i] (items'[i]'(by rw [← HLi.out]; exact hi)) (by omega) (List.getElem?_eq_getElem hi) (List.getElem?_eq_getElem _)
         rw [List.getElem?_eq_getElem hi, List.getElem?_eq_getElem (by rw [← HLi.out]; exact hi), h1]
        ·rw [List.getElem?_eq_none (by omega), List.getElem?_eq_none (by rw [← HLi.out]; omega)]
       rw [hi, HN.out]
end Go.Proofs.YtbkaffhbhimglaaGreat

/-
  Finding in values: what Same, Holds, Get and the library's searches come to. The conditions: none beyond each contract's own.
-/
namespace Go.Proofs.YtbkaffhbhimglaaGreat
open Go.RowKit
open Lib renaming hid → q_
set_option maxRecDepth 100000
set_option maxHeartbeats 400000
def fidx {α : Type} (p : α → Bool) : List α → Option Nat
 | [] => none
 | x :: r => if p x then some 0 else (fidx p r).map (· + 1)
def pos : Option Nat → Int
 | none => -1
 | some i => i
theorem zbl {α : Type} {p : α → Bool} : ∀ {l : List α} {k : Nat} {x : α}, l[k]? = some x → p x = true → (∀ i y, i < k → l[i]? = some y → p y = false) → fidx p l = some k
 | [], _, _, h, _, _ => by simp at h
 | y :: r, 0, x, h, hp, _ => by simp at h; subst h; simp [fidx, hp]
 | y :: r, k + 1, x, h, hp, hall => by
  have h0 := hall 0 y (by omega) rfl
  simp only [fidx, h0, Bool.false_eq_true, if_false]
  rw [zbl (l := r) (k := k) (by simpa using h) hp fun i z hi hz => hall (i + 1) z (by omega) (by simpa using hz)]
  rfl
theorem zby {α : Type} {p : α → Bool} : ∀ {l : List α}, (∀ i y, i < l.length → l[i]? = some y → p y = false) → fidx p l = none
 | [], _ => rfl
 | y :: r, hall => by
  have h0 := hall 0 y (by simp) rfl
  simp only [fidx, h0, Bool.false_eq_true, if_false]
  rw [zby (l := r) fun i z hi hz => hall (i + 1) z (by simpa using hi) (by simpa using hz)]
  rfl
theorem zew {α : Type} {p : α → Bool} : ∀ {l : List α} {k : Nat}, fidx p l = some k → ∃ x, l[k]? = some x ∧ p x = true
 | [], _, h => by simp [fidx] at h
 | y :: r, k, h => by
  simp only [fidx] at h
  split at h
  ·rename_i hp; injection h with h; subst h; exact ⟨y, rfl, hp⟩
  ·cases hr : fidx p r with
   | none => rw [hr] at h; cases h
   | some j =>
    rw [hr] at h; simp at h; subst h
    obtain ⟨x, hx, hp⟩ := zew hr
    exact ⟨x, by simpa using hx, hp⟩
theorem zch {α : Type} {p : α → Bool} : ∀ l : List α, (fidx p l).isSome = l.any p
 | [] => rfl
 | y :: r => by
  simp only [fidx, List.any_cons]
  split
  ·rename_i hp; simp [hp]
  ·rename_i hp; simp [hp, zch r]
theorem indexStrs_ok (S : Nat → Prop) (l : List ByteArray) (v : Value) (s : ByteArray) (w : World) (hl : StrsAt S w l v) :
  Calls Tryz.prog 60 #[v, .string s] w fun e w' => e = .returned (.int .i64 (pos (fidx (fun x => s.toList == x.toList) l))) ∧ w = w' := by
 obtain ⟨A, cap, rfl, hl0, hl1, hl2, hls, hlr⟩ := hl
 rw [zak] at hl0
 rw [zab] at hl2
 have HL := q_ hlr
 clear hlr hls
 go_enter Tryz.func60, Tryz.ntmps60
 go_wp2_with fail
 go_loop [8] (fun i => ∃ k : Nat, k ≤ l.length ∧ i = .int .i64 k ∧ Hid (∀ i x, i < k → l[i]? = some x → (s.toList == x.toList) = false)) (fun i => l.length - (intOf i).toNat)
 case atStart => exact ⟨0, Nat.zero_le _, rfl, fun _ _ h => by omega⟩
 case round =>
  obtain ⟨k, hk, rfl, Hall⟩ := hrel
  by_cases hlt : k < l.length
  ·obtain ⟨b, o, rfl, hSb, hrow⟩ := HL.out (by omega)
   obtain ⟨x, hx⟩ : ∃ x, l[k]? = some x := ⟨_, List.getElem?_eq_getElem hlt⟩
   have hcx := hrow k (.string x) (by simp [hx])
   have Hx := q_ hx
   clear hx hrow hSb
   go_wp2_with fail
   ·have he : (s.toList == x.toList) = true := by assumption
    go_ret
    exact ⟨zag (by rw [zbl Hx.out he Hall.out]; rfl), rfl⟩
   ·have he : (s.toList == x.toList) = false := by assumption
    go_round
    case rel => exact ⟨k + 1, by omega, by go_num, fun i p hi hp => by
     by_cases hik : i = k
     ·subst hik; rw [Hx.out] at hp; cases hp; exact he
     ·exact Hall.out i p (by omega) hp⟩
    case measure => simp [intOf]; omega
  ·go_wp2_with fail
   go_ret
   have hke : k = l.length := by omega
   subst hke
   exact ⟨zag (by rw [zby Hall.out]; rfl), rfl⟩
def Val.find (v : Val) (s : ByteArray) : Option Nat :=
 if v.kind = 6 then (fidx (fun x : ByteArray => s.toList == x.toList) v.names).bind fun i => if i < v.items.length then some i else none else none
theorem getR_ok (v : Val) (s : ByteArray) (S : Nat → Prop) (w : World) (cs : List Value) (hS : ∀ b, S b → b < w.heap.size) (h : Val.At S w v cs) :
  Calls Tryz.prog 69 #[.agg cs.toArray, .string s] w fun e w' => e = .returned (.int .i64 (pos (v.find s))) ∧ Ext w w' := by
 cases v with
 | mk k bo i t ut ui items names =>
 unfold Val.At at h
 obtain ⟨A, cap, nv, rfl, _, ⟨hb2, hb4, hb5⟩, hitems, A2, cap2, rfl, hl0, hl1, hl2, hls, hlr⟩ := h
 rw [zab] at hb5 hl2
 rw [zak] at hb2 hl0
 have HL := q_ hlr
 have HS := q_ hS
 have Hf := q_ (show Val.find (.mk k bo i t ut ui items names) s = if k = 6 then (fidx (fun x : ByteArray => s.toList == x.toList) names).bind fun i => if i < items.length then some i else none else none from rfl)
 clear hitems hls hlr hS
 generalize hg : Val.find (.mk k bo i t ut ui items names) s = r at *
 have HG := q_ hg
 clear hg
 by_cases hk : k = 6
 case neg =>
  have e6 : (k != 6) = true := by simpa using hk
  have H := q_ hk
  clear hk
  go_enter Tryz.func69, Tryz.ntmps69
  go_wp2_with fail
  go_ret
  exact ⟨zag (by rw [Hf.out, if_neg H.out]; rfl), (Ext.refl w).alloc _⟩
 subst hk
 go_enter Tryz.func69, Tryz.ntmps69
 go_wp2_with fail
 go_loop [5] (fun i => ∃ k : Nat, k ≤ names.length ∧ i = .int .i64 k ∧ Hid (∀ i x, i < k → names[i]? = some x → (x.toList == s.toList) = false)) (fun i => names.length - (intOf i).toNat)
 case atStart => exact ⟨0, Nat.zero_le _, rfl, fun _ _ h => by omega⟩
 case round =>
  obtain ⟨j, hk, rfl, Hall⟩ := hrel
  have hall' : ∀ i x, i < j → names[i]? = some x → (s.toList == x.toList) = false := fun i x hi hx => by
   have := Hall.out i x hi hx
   rw [beq_eq_false_iff_ne] at this ⊢
   exact fun e => this e.symm
  have Hall' := q_ hall'
  clear hall'
  by_cases hlt : j < names.length
  ·obtain ⟨b, o, rfl, hSb, hrow⟩ := HL.out (by omega)
   obtain ⟨x, hx⟩ : ∃ x, names[j]? = some x := ⟨_, List.getElem?_eq_getElem hlt⟩
   have hbl := HS.out b hSb
   have hcx : (w.alloc (.cells #[.int .i64 6, .bool bo, .int .i64 i, .string t, .string ut, .string ui, .slice A items.length cap, .slice (some ⟨b, o, none⟩) names.length cap2] 46)).cell? ⟨b, o + j, none⟩ = some (.string x) := by
    rw [World.cell?_alloc_lt _ _ _ (by exact hbl)]; exact hrow j (.string x) (by simp [hx])
   have Hx := q_ hx
   clear hx hrow hSb hbl
   go_wp2_with fail
   ·have he : (x.toList == s.toList) = true := by assumption
    have hj : items.length ≤ j := by assumption
    have he' : (s.toList == x.toList) = true := by rw [beq_iff_eq] at he ⊢; exact he.symm
    go_ret
    exact ⟨zag (by rw [Hf.out]; simp [zbl (p := fun x : ByteArray => s.toList == x.toList) Hx.out he' Hall'.out, pos, Nat.not_lt.2 hj]), (Ext.refl w).alloc _⟩
   ·have he : (x.toList == s.toList) = true := by assumption
    have hj : ¬ items.length ≤ j := by assumption
    have he' : (s.toList == x.toList) = true := by rw [beq_iff_eq] at he ⊢; exact he.symm
    go_ret
    exact ⟨zag (by rw [Hf.out]; simp [zbl (p := fun x : ByteArray => s.toList == x.toList) Hx.out he' Hall'.out, pos, Nat.not_le.1 hj]), (Ext.refl w).alloc _⟩
   ·have he : (x.toList == s.toList) = false := by assumption
    go_round
    case rel => exact ⟨j + 1, by omega, by go_num, fun i p hi hp => by
     by_cases hik : i = j
     ·subst hik; rw [Hx.out] at hp; cases hp; exact he
     ·exact Hall.out i p (by omega) hp⟩
    case measure => simp [intOf]; omega
  ·go_wp2_with fail
   go_ret
   have hke : j = names.length := by omega
   subst hke
   exact ⟨zag (by rw [Hf.out]; simp [zby Hall'.out, pos]), (Ext.refl w).alloc _⟩
theorem same_ok (a b : Val) (S : Nat → Prop) (w : World) (ca cb : List Value) (hS : ∀ b, S b → b < w.heap.size) (ha : Val.At S w a ca) (hb : Val.At S w b cb) :
  Calls Tryz.prog 97 #[.agg ca.toArray, .agg cb.toArray] w fun en w' => en = .returned (.bool (a.ord b == 0)) ∧ Ext w w' := by
 obtain ⟨k1, b1, n1, t1, ut1, ui1, A1, l1, c1, A2, l2, c2, rfl⟩ := ha.shape
 obtain ⟨k3, b3, n3, t3, ut3, ui3, A3, l3, c3, A4, l4, c4, rfl⟩ := hb.shape
 have HS := q_ hS
 have Ha := q_ ha
 have Hb := q_ hb
 clear hS ha hb
 go_enter Tryz.func97, Tryz.ntmps97
 go_wp2_with (go_at_call 95; refine (order_ok _ a b S _ [_, _, _, _, _, _, _, _] [_, _, _, _, _, _, _, _] (Nat.le_refl _) (fun b hb => Nat.lt_of_lt_of_le (HS.out b hb) (((Ext.refl w).alloc _).alloc _).size) (Ha.out.alike (Alike.of_ext (((Ext.refl w).alloc _).alloc _) HS.out)) (Hb.out.alike (Alike.of_ext (((Ext.refl w).alloc _).alloc _) HS.out))).mono ?_; rintro e w' ⟨rfl, hx2⟩; have HX2 := q_ hx2; clear hx2)
 go_ret
 exact ⟨rfl, (((Ext.refl w).alloc _).alloc _).trans HX2.out⟩
def Val.zero : Val := .mk 0 false 0 ByteArray.empty ByteArray.empty ByteArray.empty [] []
def zeroCells : List Value := [.int .i64 0, .bool false, .int .i64 0, .string ByteArray.empty, .string ByteArray.empty, .string ByteArray.empty, .slice none 0 0, .slice none 0 0]
theorem Val.zero_at (S : Nat → Prop) (w : World) : Val.At S w .zero zeroCells := by
 unfold Val.zero Val.At
 refine ⟨none, 0, .slice none 0 0, rfl, ⟨by unfold I64; omega, by unfold I64; omega, by simp, by simp, by simp⟩, ⟨by simp, by simp, by simp⟩, by simp, ⟨none, 0, rfl, by simp, by simp, by simp, by simp, by simp⟩⟩
end Go.Proofs.YtbkaffhbhimglaaGreat

/-
  Values as they must be, as plain mathematics: what canon comes to, that sets rise, that the order parts what is unlike. No program in sight. The conditions: none (definitions and lemmas).
-/
namespace Go.Proofs.YtbkaffhbhimglaaGreat
open Go.RowKit
section order
variable {α : Type} {c : α → α → Int}
def zb0 (c : α → α → Int) (l : List α) : Prop := l.Pairwise fun a b => c a b = -1
def ins (c : α → α → Int) (x : α) : List α → List α
 | [] => [x]
 | y :: r => if c y x = -1 then y :: ins c x r else if c y x = 0 then y :: r else x :: y :: r
def sortU (c : α → α → Int) (l : List α) : List α := l.foldl (fun a x => ins c x a) []
def zbb (c : α → α → Int) : α → List α → List α
 | _, [] => []
 | p, y :: r => if c y p = 0 then zbb c y r else y :: zbb c y r
def zbo (c : α → α → Int) : List α → List α
 | [] => []
 | x :: r => x :: zbb c x r
theorem mem_ins {x y : α} : ∀ {l : List α}, y ∈ ins c x l → y = x ∨ y ∈ l
 | [], h => by simp [ins] at h; exact .inl h
 | z :: r, h => by
  simp only [ins] at h
  split at h
  ·rcases List.mem_cons.1 h with h | h
   ·exact .inr (by simp [h])
   ·rcases mem_ins h with h | h
    ·exact .inl h
    ·exact .inr (by simp [h])
  ·split at h
   ·exact .inr h
   ·rcases List.mem_cons.1 h with h | h
    ·exact .inl h
    ·exact .inr h
theorem zdo {x y : α} : ∀ {l : List α}, y ∈ l → y ∈ ins c x l
 | z :: r, h => by
  simp only [ins]
  split
  ·rcases List.mem_cons.1 h with h | h
   ·simp [h]
   ·simp [zdo h]
  ·split
   ·exact h
   ·exact List.mem_cons_of_mem _ h
theorem mem_ins_new {x : α} : ∀ {l : List α}, x ∈ ins c x l ∨ ∃ y ∈ l, c y x = 0
 | [] => by simp [ins]
 | z :: r => by
  simp only [ins]
  split
  ·rcases mem_ins_new (x := x) (l := r) with h | ⟨y, hy, h0⟩
   ·exact .inl (by simp [h])
   ·exact .inr ⟨y, by simp [hy], h0⟩
  ·split
   ·rename_i h0; exact .inr ⟨z, by simp, h0⟩
   ·exact .inl (by simp)
theorem flip1 (hg : ∀ x, GoodAt c x) {x y : α} (h1 : ¬ c y x = -1) (h0 : ¬ c y x = 0) : c x y = -1 := by
 have h2 := (hg y).range x
 have h3 := (hg y).turn x
 omega
theorem ins_strict (hg : ∀ x, GoodAt c x) {x : α} : ∀ {l : List α}, zb0 c l → zb0 c (ins c x l)
 | [], _ => by simp [ins, zb0]
 | z :: r, h => by
  obtain ⟨hz, hr⟩ := List.pairwise_cons.1 h
  simp only [ins]
  split
  ·rename_i h1
   refine List.pairwise_cons.2 ⟨fun y hy => ?_, ins_strict hg hr⟩
   rcases mem_ins hy with rfl | hy
   ·exact h1
   ·exact hz y hy
  ·split
   ·exact h
   ·rename_i h1 h0
    have hx := flip1 hg h1 h0
    refine List.pairwise_cons.2 ⟨fun y hy => ?_, h⟩
    rcases List.mem_cons.1 hy with rfl | hy
    ·exact hx
    ·exact (hg x).less z y hx (by have := hz y hy; omega)
theorem strict_head (hg : ∀ x, GoodAt c x) {x : α} {r : List α} (h : zb0 c (x :: r)) : x ∉ r := fun hx => by
 have := (List.pairwise_cons.1 h).1 x hx
 rw [(hg x).refl] at this; omega
theorem zcn (hg : ∀ x, GoodAt c x) : ∀ {l m : List α}, zb0 c l → zb0 c m → (∀ x, x ∈ l ↔ x ∈ m) → l = m
 | [], [], _, _, _ => rfl
 | [], y :: s, _, _, h => by have := (h y).2 (by simp); simp at this
 | x :: r, [], _, _, h => by have := (h x).1 (by simp); simp at this
 | x :: r, y :: s, hl, hm, h => by
  have hxy : x = y := by
   rcases List.mem_cons.1 ((h x).1 (by simp)) with e | hx
   ·exact e
   ·rcases List.mem_cons.1 ((h y).2 (by simp)) with e | hy
    ·exact e.symm
    ·have h1 := (List.pairwise_cons.1 hl).1 y hy
     have h2 := (List.pairwise_cons.1 hm).1 x hx
     have h3 := (hg x).turn y
     omega
  subst hxy
  rw [zcn hg (List.pairwise_cons.1 hl).2 (List.pairwise_cons.1 hm).2 fun z => ?_]
  have hz := h z
  simp only [List.mem_cons] at hz
  by_cases hzx : z = x
  ·subst hzx
   exact ⟨fun h1 => absurd h1 (strict_head hg hl), fun h1 => absurd h1 (strict_head hg hm)⟩
  ·simpa [hzx] using hz
theorem foldl_ins_strict (hg : ∀ x, GoodAt c x) : ∀ (l a : List α), zb0 c a → zb0 c (l.foldl (fun a x => ins c x a) a)
 | [], _, h => h
 | _ :: r, _, h => foldl_ins_strict hg r _ (ins_strict hg h)
theorem za3 (hg : ∀ x, GoodAt c x) (l : List α) : zb0 c (sortU c l) := foldl_ins_strict hg l [] List.Pairwise.nil
theorem foldl_ins_mem {P : α → Prop} (he : ∀ x y, P x → P y → c x y = 0 → x = y) : ∀ (l a : List α), (∀ x ∈ l, P x) → (∀ x ∈ a, P x) → ∀ y, y ∈ l.foldl (fun a x => ins c x a) a ↔ y ∈ l ∨ y ∈ a
 | [], a, _, _, y => by simp
 | x :: r, a, hl, ha, y => by
  rw [List.foldl_cons, foldl_ins_mem he r _ (fun z hz => hl z (by simp [hz])) (fun z hz => by
   rcases mem_ins hz with rfl | hz
   ·exact hl _ (by simp)
   ·exact ha z hz)]
  simp only [List.mem_cons]
  constructor
  ·rintro (h | h)
   ·exact .inl (.inr h)
   ·rcases mem_ins h with h | h
    ·exact .inl (.inl h)
    ·exact .inr h
  ·rintro ((h | h) | h)
   ·subst h
    rcases mem_ins_new (c := c) (x := y) (l := a) with h | ⟨z, hz, h0⟩
    ·exact .inr h
    ·have := he z y (ha z hz) (hl y (by simp)) h0
     subst this; exact .inr (zdo hz)
   ·exact .inl h
   ·exact .inr (zdo h)
theorem sortU_mem {P : α → Prop} (he : ∀ x y, P x → P y → c x y = 0 → x = y) {l : List α} (hl : ∀ x ∈ l, P x) (y : α) : y ∈ sortU c l ↔ y ∈ l := by
 rw [sortU, foldl_ins_mem he l [] hl (by simp)]; simp
theorem zdz {l : List α} {y : α} (h : y ∈ sortU c l) : y ∈ l := by
 have : ∀ (l a : List α), y ∈ l.foldl (fun a x => ins c x a) a → y ∈ l ∨ y ∈ a := by
  intro l
  induction l with
  | nil => intro a h; exact .inr h
  | cons x r ih =>
   intro a h
   rcases ih _ h with h | h
   ·exact .inl (by simp [h])
   ·rcases mem_ins h with h | h
    ·exact .inl (by simp [h])
    ·exact .inr h
 rcases this l [] h with h | h
 ·exact h
 ·cases h
theorem zc6 {y : α} : ∀ {l : List α} {p : α}, y ∈ zbb c p l → y ∈ l
 | [], _, h => by simp [zbb] at h
 | z :: r, p, h => by
  simp only [zbb] at h
  split at h
  ·exact List.mem_cons_of_mem _ (zc6 h)
  ·rcases List.mem_cons.1 h with h | h
   ·simp [h]
   ·exact List.mem_cons_of_mem _ (zc6 h)
theorem dedup_mem_of {y : α} : ∀ {l : List α}, y ∈ zbo c l → y ∈ l
 | [], h => h
 | x :: r, h => by
  rcases List.mem_cons.1 h with h | h
  ·simp [h]
  ·exact List.mem_cons_of_mem _ (zc6 h)
theorem zem {P : α → Prop} (he : ∀ x y, P x → P y → c x y = 0 → x = y) {y : α} : ∀ {l : List α} {p : α}, (∀ x ∈ l, P x) → P p → y ∈ l → y = p ∨ y ∈ zbb c p l
 | z :: r, p, hl, hp, h => by
  have hz := hl z (by simp)
  simp only [zbb]
  split
  ·rename_i h0
   have e := he z p hz hp h0
   subst e
   rcases List.mem_cons.1 h with h | h
   ·exact .inl h
   ·exact zem he (fun x hx => hl x (by simp [hx])) hz h
  ·rcases List.mem_cons.1 h with h | h
   ·exact .inr (by simp [h])
   ·rcases zem he (fun x hx => hl x (by simp [hx])) hz h with h | h
    ·exact .inr (by simp [h])
    ·exact .inr (by simp [h])
theorem dedup_mem {P : α → Prop} (he : ∀ x y, P x → P y → c x y = 0 → x = y) {l : List α} (hl : ∀ x ∈ l, P x) (y : α) : y ∈ zbo c l ↔ y ∈ l := by
 refine ⟨dedup_mem_of, fun h => ?_⟩
 cases l with
 | nil => exact h
 | cons x r =>
  rcases List.mem_cons.1 h with h | h
  ·simp [zbo, h]
  ·rcases zem he (fun z hz => hl z (by simp [hz])) (hl x (by simp)) h with h | h
   ·simp [zbo, h]
   ·simp [zbo, h]
theorem dedupFrom_strict (hg : ∀ x, GoodAt c x) : ∀ {l : List α} {p : α}, (∀ y ∈ l, c p y ≤ 0) → l.Pairwise (fun a b => c a b ≤ 0) → zb0 c (zbb c p l) ∧ ∀ y ∈ zbb c p l, c p y = -1
 | [], _, _, _ => by simp [zbb, zb0]
 | z :: r, p, hp, hs => by
  obtain ⟨hz, hr⟩ := List.pairwise_cons.1 hs
  obtain ⟨i1, i2⟩ := dedupFrom_strict hg hz hr
  have hpz := hp z (by simp)
  simp only [zbb]
  split
  ·rename_i h0
   refine ⟨i1, fun y hy => ?_⟩
   have := i2 y hy
   rw [← (hg z).cong p y h0] at this
   exact this
  ·rename_i h0
   have h1 : c p z = -1 := by
    have h2 := (hg p).range z
    have h3 := (hg p).turn z
    omega
   refine ⟨List.pairwise_cons.2 ⟨i2, i1⟩, fun y hy => ?_⟩
   rcases List.mem_cons.1 hy with rfl | hy
   ·exact h1
   ·exact (hg p).less z y h1 (by have := i2 y hy; omega)
theorem dedup_strict (hg : ∀ x, GoodAt c x) {l : List α} (hs : l.Pairwise (fun a b => c a b ≤ 0)) : zb0 c (zbo c l) := by
 cases l with
 | nil => exact List.Pairwise.nil
 | cons x r =>
  obtain ⟨hx, hr⟩ := List.pairwise_cons.1 hs
  obtain ⟨i1, i2⟩ := dedupFrom_strict hg hx hr
  exact List.pairwise_cons.2 ⟨i2, i1⟩
theorem dedup_sorted (hg : ∀ x, GoodAt c x) {P : α → Prop} (he : ∀ x y, P x → P y → c x y = 0 → x = y) {l l' : List α} (hl : ∀ x ∈ l, P x) (hp : l'.Perm l) (hs : l'.Pairwise (fun a b => c a b ≤ 0)) : zbo c l' = sortU c l :=
 zcn hg (dedup_strict hg hs) (za3 hg l) fun x => by
  rw [dedup_mem he (fun x hx => hl x (hp.mem_iff.1 hx)), sortU_mem he hl, hp.mem_iff]
theorem ins_at (hg : ∀ x, GoodAt c x) {x : α} : ∀ {l : List α} {p : Nat}, zb0 c l → p ≤ l.length → (∀ i y, i < p → l[i]? = some y → c y x = -1) → (∀ i y, p ≤ i → l[i]? = some y → ¬ c y x = -1) →
  ((∃ i y, p ≤ i ∧ l[i]? = some y ∧ c y x = 0) ∧ ins c x l = l) ∨ (¬ (∃ i y, p ≤ i ∧ l[i]? = some y ∧ c y x = 0) ∧ ins c x l = l.take p ++ x :: l.drop p)
 | [], p, _, hp, _, _ => by
  have : p = 0 := by simpa using hp
  subst this; exact .inr ⟨by simp, by simp [ins]⟩
 | z :: r, 0, hs, _, _, h2 => by
  have hz := h2 0 z (by omega) rfl
  simp only [ins, hz, if_false]
  by_cases h0 : c z x = 0
  ·rw [if_pos h0]; exact .inl ⟨⟨0, z, by omega, rfl, h0⟩, rfl⟩
  ·rw [if_neg h0]
   refine .inr ⟨?_, rfl⟩
   rintro ⟨i, y, _, hy, hy0⟩
   have hx := flip1 hg hz h0
   cases i with
   | zero => simp at hy; subst hy; exact h0 hy0
   | succ i =>
    have hm : y ∈ r := List.mem_of_getElem? (i := i) (by simpa using hy)
    have h3 := (List.pairwise_cons.1 hs).1 y hm
    have h4 := (hg x).less z y hx (by omega)
    have h5 := (hg x).turn y
    omega
 | z :: r, p + 1, hs, hp, h1, h2 => by
  have hz := h1 0 z (by omega) rfl
  simp only [ins, hz, if_true]
  rcases ins_at hg (l := r) (p := p) (List.pairwise_cons.1 hs).2 (by simpa using hp) (fun i y hi hy => h1 (i + 1) y (by omega) (by simpa using hy)) (fun i y hi hy => h2 (i + 1) y (by omega) (by simpa using hy)) with ⟨⟨i, y, hi, hy, h0⟩, he⟩ | ⟨hn, he⟩
  ·exact .inl ⟨⟨i + 1, y, by omega, by simpa using hy, h0⟩, by rw [he]⟩
  ·refine .inr ⟨?_, by rw [he]; simp⟩
   rintro ⟨i, y, hi, hy, h0⟩
   cases i with
   | zero => omega
   | succ i => exact hn ⟨i, y, by omega, by simpa using hy, h0⟩
end order
/-! ### values as they must be -/
def empty : ByteArray := ByteArray.empty
def cmpN (p q : ByteArray × Val) : Int := cmpS p.1 q.1
theorem GoodAt.cmpN (p : ByteArray × Val) : GoodAt cmpN p := GoodAt.part (c := Go.Proofs.YtbkaffhbhimglaaGreat.cmpS) (fun p : ByteArray × Val => p.1) (GoodAt.cmpS p.1)
def zbe (names : List ByteArray) (l : List Val) : Val × Int :=
 if names.Nodup then (.mk 6 false 0 empty empty empty ((sortU cmpN (names.zip l)).map (·.2)) ((sortU cmpN (names.zip l)).map (·.1)), 0) else (.zero, 13)
mutual
def Val.can : Val → Val × Int
 | .mk k bo n t ut ui items names =>
  if k = 1 then (.mk 1 bo 0 empty empty empty [] [], 0) else
  if k = 2 then (.mk 2 false n empty empty empty [] [], 0) else
  if k = 3 then (.mk 3 false 0 t empty empty [] [], 0) else
  if k = 4 then (.mk 4 false 0 empty ut ui [] [], 0) else
  if k = 5 then
   if (Val.cans items).2 ≠ 0 then (.zero, (Val.cans items).2) else
   if 4096 < items.length then (.zero, 12) else
   (.mk 5 false 0 empty empty empty (sortU Val.ord (Val.cans items).1) [], 0) else
  if k = 6 then
   if names.length ≠ items.length then (.zero, 1) else
   if (Val.cans items).2 ≠ 0 then (.zero, (Val.cans items).2) else
   if 4096 < items.length then (.zero, 12) else zbe names (Val.cans items).1
  else (.zero, 1)
def Val.cans : List Val → List Val × Int
 | [] => ([], 0)
 | x :: r => if x.can.2 ≠ 0 then ([], x.can.2) else if (Val.cans r).2 ≠ 0 then ([], (Val.cans r).2) else (x.can.1 :: (Val.cans r).1, 0)
end
def Val.canon (v : Val) : Val × Int := if 50 < v.dep then (.zero, 11) else v.can
mutual
def Val.Is : Val → Prop
 | .mk k bo n t ut ui items names =>
  (k = 1 ∧ n = 0 ∧ t = empty ∧ ut = empty ∧ ui = empty ∧ items = [] ∧ names = []) ∨
  (k = 2 ∧ bo = false ∧ t = empty ∧ ut = empty ∧ ui = empty ∧ items = [] ∧ names = []) ∨
  (k = 3 ∧ bo = false ∧ n = 0 ∧ ut = empty ∧ ui = empty ∧ items = [] ∧ names = []) ∨
  (k = 4 ∧ bo = false ∧ n = 0 ∧ t = empty ∧ items = [] ∧ names = []) ∨
  (k = 5 ∧ bo = false ∧ n = 0 ∧ t = empty ∧ ut = empty ∧ ui = empty ∧ names = [] ∧ zb0 Val.ord items ∧ items.length ≤ 4096 ∧ Val.Are items) ∨
  (k = 6 ∧ bo = false ∧ n = 0 ∧ t = empty ∧ ut = empty ∧ ui = empty ∧ names.length = items.length ∧ zb0 cmpS names ∧ items.length ≤ 4096 ∧ Val.Are items)
def Val.Are : List Val → Prop
 | [] => True
 | x :: r => x.Is ∧ Val.Are r
end
theorem Val.are_iff : ∀ l : List Val, Val.Are l ↔ ∀ x ∈ l, x.Is
 | [] => by simp [Val.Are]
 | x :: r => by simp [Val.Are, Val.are_iff r]
theorem Val.ord_mk (k : Int) (bo : Bool) (i : Int) (t ut ui : ByteArray) (items : List Val) (names : List ByteArray) (k' : Int) (bo' : Bool) (i' : Int) (t' ut' ui' : ByteArray) (items' : List Val) (names' : List ByteArray) :
  (Val.mk k bo i t ut ui items names).ord (.mk k' bo' i' t' ut' ui' items' names') = if k ≠ k' then cmpI k k' else
  if k = 1 then cmpI (bit bo) (bit bo') else
  if k = 2 then cmpI i i' else
  if k = 3 then cmpS t t' else
  if k = 4 then zeb (cmpS ut ut') (cmpS ui ui') else
  if k = 5 then lexL Val.ord items items' else
  if k = 6 then zeb (lexL cmpS names names') (lexL Val.ord (items.take names.length) (items'.take names'.length)) else 0 := Val.ord_def _ _
theorem Val.eq_of_ord : ∀ (n : Nat) (a b : Val), SizeOf.sizeOf a ≤ n → a.Is → b.Is → a.ord b = 0 → a = b
 | 0, a, _, h, _, _, _ => by cases a; simp at h
 | n + 1, .mk k bo i t ut ui items names, .mk k' bo' i' t' ut' ui' items' names', h, ha, hb, h0 => by
  rw [Val.ord_mk] at h0
  have hk : k = k' := by
   by_cases hk : k = k'
   ·exact hk
   ·rw [if_pos hk] at h0; unfold cmpI at h0; repeat' split at h0 <;> omega
  subst hk
  rw [if_neg (by simp)] at h0
  have hi : ∀ (l l' : List Val), (∀ x ∈ l, x ∈ items) → Val.Are items → Val.Are items' → (∀ x ∈ l', x ∈ items') → lexL Val.ord l l' = 0 → l = l' := fun l l' h1 h2 h3 h4 h5 =>
   lexL_eq (fun x hx y hy hxy => Val.eq_of_ord n x y (by have := List.sizeOf_lt_of_mem (h1 x hx); simp at h; omega) ((Val.are_iff _).1 h2 x (h1 x hx)) ((Val.are_iff _).1 h3 y (h4 y hy)) hxy) h5
  simp only [Val.Is] at ha hb
  rcases ha with ⟨rfl, ha⟩ | ⟨rfl, ha⟩ | ⟨rfl, ha⟩ | ⟨rfl, ha⟩ | ⟨rfl, ha⟩ | ⟨rfl, ha⟩
  ·obtain ⟨rfl, rfl, rfl, rfl, rfl, rfl⟩ := ha
   simp at hb
   obtain ⟨rfl, rfl, rfl, rfl, rfl, rfl⟩ := hb
   simp [cmpI, bit] at h0
   cases bo <;> cases bo' <;> simp_all
  ·obtain ⟨rfl, rfl, rfl, rfl, rfl, rfl⟩ := ha
   simp at hb
   obtain ⟨rfl, rfl, rfl, rfl, rfl, rfl⟩ := hb
   simp [cmpI] at h0
   have : i = i' := by repeat' split at h0 <;> omega
   rw [this]
  ·obtain ⟨rfl, rfl, rfl, rfl, rfl, rfl⟩ := ha
   simp at hb
   obtain ⟨rfl, rfl, rfl, rfl, rfl, rfl⟩ := hb
   simp at h0
   rw [zek h0]
  ·obtain ⟨rfl, rfl, rfl, rfl, rfl⟩ := ha
   simp at hb
   obtain ⟨rfl, rfl, rfl, rfl, rfl⟩ := hb
   simp [zeb] at h0
   have h1 : cmpS ut ut' = 0 := by
    split at h0
    ·assumption
    ·exact h0
   rw [if_pos h1] at h0
   rw [zek h1, zek h0]
  ·obtain ⟨rfl, rfl, rfl, rfl, rfl, rfl, _, _, h2⟩ := ha
   simp at hb
   obtain ⟨rfl, rfl, rfl, rfl, rfl, rfl, _, _, h3⟩ := hb
   simp at h0
   rw [hi items items' (fun _ h => h) h2 h3 (fun _ h => h) h0]
  ·obtain ⟨rfl, rfl, rfl, rfl, rfl, hl, _, _, h2⟩ := ha
   simp at hb
   obtain ⟨rfl, rfl, rfl, rfl, rfl, hl', _, _, h3⟩ := hb
   simp [zeb] at h0
   have h1 : lexL cmpS names names' = 0 := by
    split at h0
    ·assumption
    ·exact h0
   rw [if_pos h1, hl, hl', List.take_length, List.take_length] at h0
   rw [lexL_eq (fun x _ y _ hxy => zek hxy) h1, hi items items' (fun _ h => h) h2 h3 (fun _ h => h) h0]
theorem Val.eq_ord {a b : Val} (ha : a.Is) (hb : b.Is) (h : a.ord b = 0) : a = b := Val.eq_of_ord _ a b (Nat.le_refl _) ha hb h
end Go.Proofs.YtbkaffhbhimglaaGreat

/-
  Rows that a call has made itself: appended to, read as values. The conditions: none (definitions and lemmas).
-/
namespace Go.Proofs.YtbkaffhbhimglaaGreat
open Go.RowKit
theorem cell_add {w : World} {b o : Nat} {cs : List Value} (h : CellsAt w b o cs) : ∀ j u, cs[j]? = some u → w.cell? ((⟨b, o, none⟩ : Addr).add j) = some u := fun j u hj => by
 have := h j u hj
 unfold Addr.add
 by_cases h0 : j = 0
 ·subst h0; simpa using this
 ·simpa [h0] using this
structure GrownBy (w w' : World) (row : Option Nat) : Prop extends w.grownBy w' row where
 drawn : w.drawn ≤ w'.drawn
theorem za1 {P : Program} {ops : Array Oper} {rest : List Oper} {o : Oper} {a : Act} {Q : Exit → Act → World → Prop} {w : World} (hgd : o.guard = none) (s x : Operand) (t : TypeId)
  (ho : o.op = .call { callee := .builtin .append, args := #[s, x], argTypes := #[t, t] })
  (base : Nat) (e : TypeId) (i : TypeInfo) (z : Value) (size bytes : Nat) (ht : P.underlying t = some (.slice e)) (hi : P.info? e = some i) (hz : i.zero = some z)
  (hsize : i.size = size) (hby : i.bytes = bytes) (hzs : z.cells.size = size) (hsz : 0 < size)
  (v : Value) (n : Nat) (xs : List Value) (hs : a.eval s = v) (hown : w.ownsRow base e size v n xs)
  (b of m c : Nat) (news : List Value) (hx : a.eval x = .slice (some ⟨b, of, none⟩) m c) (hl : news.length = m * size) (hnews : CellsAt w b of news) (h1 : ∀ u ∈ news, u.oneCell' = true)
  (h63 : n + m ≤ maxLen) (hbytes : (n + m) * bytes ≤ 140737488355328) (hbase : base ≤ w.heap.size)
  (h : ∀ v' w', w'.ownsRow base e size v' (n + m) (xs ++ news) → GrownBy w w' v.ownBlock → (v'.ownBlock = v.ownBlock ∨ v'.ownBlock = some w.heap.size) → wpList P ops Q rest (a.put o.dst v') w') : wpList P ops Q (o :: rest) a w :=
 wpList_plain hgd fun K hK => by
  obtain ⟨v', w', hrun, h2, h3, _, h4⟩ := run_append_own_at (P := P) w base t o.type e i z size bytes ht hi hz hsize hby hzs hsz v n xs hown ⟨b, of, none⟩ m c news hl (cell_add hnews) h1 h63 hbytes hbase
  unfold Oper.wp execOp
  simp only [ho, resolve, invoke, builtin, Sem.run_bind, Sem.run_pure, Result.andThen_ok, List.map_toArray, List.map_cons, List.map_nil, hs, hx, hrun]
  exact hK _ _ (h v' w' h2 ⟨h3, zed _ _ _ _ hrun⟩ h4)
def Flat (S : Nat → Prop) (w : World) : List Val → List Value → Prop
 | [], xs => xs = []
 | v :: r, xs => ∃ cs ys, xs = cs ++ ys ∧ Val.At S w v cs ∧ Flat S w r ys
theorem Flat.snoc {S : Nat → Prop} {w : World} {x : Val} {cs : List Value} (hx : Val.At S w x cs) : ∀ {l : List Val} {xs : List Value}, Flat S w l xs → Flat S w (l ++ [x]) (xs ++ cs)
 | [], xs, h => by
  simp only [Flat] at h; subst h
  exact ⟨cs, [], by simp, hx, rfl⟩
 | v :: r, xs, h => by
  obtain ⟨c, ys, rfl, hv, hr⟩ := h
  exact ⟨c, ys ++ cs, by simp, hv, Flat.snoc hx hr⟩
theorem Flat.alike {S : Nat → Prop} {w w' : World} (k : Alike S w w') : ∀ {l : List Val} {xs : List Value}, Flat S w l xs → Flat S w' l xs
 | [], _, h => h
 | _ :: _, _, ⟨c, ys, e, hv, hr⟩ => ⟨c, ys, e, hv.alike k, Flat.alike k hr⟩
theorem Flat.mono {S S' : Nat → Prop} {w : World} (k : ∀ b, S b → S' b) : ∀ {l : List Val} {xs : List Value}, Flat S w l xs → Flat S' w l xs
 | [], _, h => h
 | _ :: _, _, ⟨c, ys, e, hv, hr⟩ => ⟨c, ys, e, hv.mono k, Flat.mono k hr⟩
theorem Flat.length {S : Nat → Prop} {w : World} : ∀ {l : List Val} {xs : List Value}, Flat S w l xs → xs.length = l.length * 8
 | [], _, h => by simp only [Flat] at h; subst h; rfl
 | _ :: r, _, ⟨c, ys, e, hv, hr⟩ => by
  subst e
  have := hv.length
  have := Flat.length hr
  simp; omega
theorem Flat.get {S : Nat → Prop} {w : World} : ∀ {l : List Val} {xs : List Value} {i : Nat} {x : Val}, Flat S w l xs → l[i]? = some x → ∃ cs, cs.length = 8 ∧ Val.At S w x cs ∧ ∀ j v, cs[j]? = some v → xs[i * 8 + j]? = some v
 | [], _, _, _, _, h => by simp at h
 | v :: r, _, 0, x, ⟨c, ys, e, hv, hr⟩, h => by
  simp at h; subst h; subst e
  refine ⟨c, hv.length, hv, fun j u hj => ?_⟩
  rw [List.getElem?_append_left (by simpa using (List.getElem?_eq_some_iff.1 hj).1)]
  simpa using hj
 | v :: r, _, i + 1, x, ⟨c, ys, e, hv, hr⟩, h => by
  subst e
  obtain ⟨cs, h1, h2, h3⟩ := Flat.get hr (i := i) (x := x) (by simpa using h)
  refine ⟨cs, h1, h2, fun j u hj => ?_⟩
  have := hv.length
  rw [List.getElem?_append_right (by omega), show (i + 1) * 8 + j - c.length = i * 8 + j from by omega]
  exact h3 j u hj
def Made (base : Nat) (w : World) (v : Value) (b : Nat) : Prop := base ≤ b ∧ b < w.heap.size ∧ v.ownBlock ≠ some b
def Fresh (base : Nat) (w : World) (b : Nat) : Prop := base ≤ b ∧ b < w.heap.size
theorem Fresh.lt {base : Nat} {w : World} : ∀ b, Fresh base w b → b < w.heap.size := fun _ h => h.2
theorem Fresh.mono {base base' : Nat} {w w' : World} (h1 : base' ≤ base) (h2 : w.heap.size ≤ w'.heap.size) : ∀ b, Fresh base w b → Fresh base' w' b := fun _ h => ⟨by have := h.1; omega, by have := h.2; omega⟩
theorem zam {w w' : World} {base : Nat} {e : TypeId} {size : Nat} {v : Value} {n : Nat} {xs : List Value} (h : w.ownsRow base e size v n xs) (k : Ext w w') : w'.ownsRow base e size v n xs := by
 obtain ⟨h1, h2⟩ := h
 refine ⟨h1, ?_⟩
 rcases h2 with h2 | ⟨g, cap, cur, hv, hg, hh, r⟩
 ·exact .inl h2
 ·exact .inr ⟨g, cap, cur, hv, hg, (k.block _ (zad hh)).trans hh, r⟩
theorem own_vals {S S' : Nat → Prop} {w : World} {base : Nat} {e : TypeId} {v : Value} {l : List Val} {xs : List Value} (h : w.ownsRow base e 8 v l.length xs) (hf : Flat S w l xs) (hl : l.length ≤ LIM)
  (h1 : ∀ b, S b → S' b) (h2 : ∀ b, v.ownBlock = some b → S' b) : ValsAt S' w l v := by
 obtain ⟨hx, hv⟩ := h
 rcases hv with ⟨rfl, hn⟩ | ⟨g, cap, cur, rfl, hg, hh, hnc, hcm, hcur, htake⟩
 ·exact ⟨none, 0, by rw [hn], ⟨hl, by omega, by simp⟩, by omega⟩
 ·refine ⟨_, cap, rfl, ⟨hl, hnc, hcm⟩, fun hn => ⟨g, 0, rfl, h2 g rfl, Val.RowAt.mk fun i x hix => ?_⟩⟩
  obtain ⟨cs, c1, c2, c3⟩ := hf.get hix
  refine ⟨cs, c1, fun j u hj => ?_, c2.mono h1⟩
  have h3 := c3 j u hj
  rw [cell_of_row _ _ _ _ _ _ hh]
  rw [← htake] at h3
  rw [List.getElem?_take] at h3
  split at h3
  ·rw [show 0 + i * 8 + j = i * 8 + j from by omega]
   simpa using h3
  ·cases h3
theorem zap {w : World} {b : Nat} (T : TypeId) (cs : List Value) (hb : b = w.heap.size) : CellsAt (w.alloc (.cells cs.toArray T)) b 0 cs := fun j v hj => by
 subst hb
 rw [cell_of_row _ _ _ _ _ _ (heap_alloc_new w _)]; simpa using hj
theorem flat_step {base : Nat} {wr w1 W2 w2 : World} {e : TypeId} {u v' : Value} {n c0 : Nat} {ys : List Val} {xs cs : List Value} {y : Val} (hown : wr.ownsRow base e 8 u n xs) (hf : Flat (Made base wr u) wr ys xs)
  (h1 : Ext wr w1) (h2 : Ext w1 W2) (hc0 : wr.heap.size ≤ c0) (hb : base ≤ wr.heap.size) (hy : Val.At (Fresh c0 w1) w1 y cs) (hg : GrownBy W2 w2 u.ownBlock) (hv : v'.ownBlock = u.ownBlock ∨ v'.ownBlock = some W2.heap.size) :
  Flat (Made base w2 v') w2 (ys ++ [y]) (xs ++ cs) := by
 have hlt := hown.lt
 have s1 := h1.size
 have s2 := h2.size
 have s3 := hg.size
 refine Flat.snoc ?_ ?_
 ·refine (hy.alike (w' := w2) fun b hbf => ?_).mono fun b hbf => ?_
  ·obtain ⟨hb1, hb2⟩ := hbf
   rw [hg.block b (by omega) (fun e => by have := hlt b e.symm; omega), h2.block b hb2]
  ·obtain ⟨hb1, hb2⟩ := hbf
   refine ⟨by omega, by omega, fun e => ?_⟩
   rcases hv with hv | hv
   ·have := hlt b (hv ▸ e); omega
   ·rw [hv] at e; injection e with e; omega
 ·refine (Flat.alike (w' := w2) (fun b hbf => ?_) hf).mono fun b hbf => ?_
  ·obtain ⟨hb1, hb2, hb3⟩ := hbf
   rw [hg.block b (by omega) (fun e => hb3 e.symm), h2.block b (by omega), h1.block b hb2]
  ·obtain ⟨hb1, hb2, hb3⟩ := hbf
   refine ⟨hb1, by omega, fun e => ?_⟩
   rcases hv with hv | hv
   ·exact hb3 (hv ▸ e)
   ·rw [hv] at e; injection e with e; omega
theorem zbt {w W2 w2 : World} {e : TypeId} {size n : Nat} {u : Value} {xs : List Value} (h : Ext w W2) (hown : W2.ownsRow w.heap.size e size u n xs) (hg : GrownBy W2 w2 u.ownBlock) : Ext w w2 :=
 ⟨Below.grown h.toBelow hg.togrownBy h.size fun k hk => (hown.lt k hk).1, Nat.le_trans h.drawn hg.drawn⟩
theorem Val.At.one {S : Nat → Prop} {w : World} {v : Val} {cs : List Value} (h : Val.At S w v cs) : ∀ u ∈ cs, u.oneCell' = true := by
 obtain ⟨k, b, n, t, ut, ui, A, l, c, A2, l2, c2, rfl⟩ := h.shape
 intro u hu
 simp at hu
 rcases hu with rfl | rfl | rfl | rfl | rfl | rfl | rfl | rfl <;> rfl
end Go.Proofs.YtbkaffhbhimglaaGreat
