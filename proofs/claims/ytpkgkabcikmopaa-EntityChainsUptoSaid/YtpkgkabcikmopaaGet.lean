/-
  Finding in values: what Same, Holds, Get and the library's searches come to. The conditions: none beyond each contract's own.
-/
import Derived.Test.YtpkgkabcikmopaaWhole
namespace Go.Proofs.Ytpkgkabcikmopaa
open Go.RowKit

def fidx {α : Type} (p : α → Bool) : List α → Option Nat
  | [] => none
  | x :: r => if p x then some 0 else (fidx p r).map (· + 1)
def pos : Option Nat → Int
  | none => -1
  | some i => i
theorem fidx_some {α : Type} {p : α → Bool} : ∀ {l : List α} {k : Nat} {x : α}, l[k]? = some x → p x = true → (∀ i y, i < k → l[i]? = some y → p y = false) → fidx p l = some k
  | [], _, _, h, _, _ => by simp at h
  | y :: r, 0, x, h, hp, _ => by simp at h; subst h; simp [fidx, hp]
  | y :: r, k + 1, x, h, hp, hall => by
    have h0 := hall 0 y (by omega) rfl
    simp only [fidx, h0, Bool.false_eq_true, if_false]
    rw [fidx_some (l := r) (k := k) (by simpa using h) hp fun i z hi hz => hall (i + 1) z (by omega) (by simpa using hz)]
    rfl
theorem fidx_none {α : Type} {p : α → Bool} : ∀ {l : List α}, (∀ i y, i < l.length → l[i]? = some y → p y = false) → fidx p l = none
  | [], _ => rfl
  | y :: r, hall => by
    have h0 := hall 0 y (by simp) rfl
    simp only [fidx, h0, Bool.false_eq_true, if_false]
    rw [fidx_none (l := r) fun i z hi hz => hall (i + 1) z (by simpa using hi) (by simpa using hz)]
    rfl
theorem fidx_lt {α : Type} {p : α → Bool} : ∀ {l : List α} {k : Nat}, fidx p l = some k → ∃ x, l[k]? = some x ∧ p x = true
  | [], _, h => by simp [fidx] at h
  | y :: r, k, h => by
    simp only [fidx] at h
    split at h
    · rename_i hp; injection h with h; subst h; exact ⟨y, rfl, hp⟩
    · cases hr : fidx p r with
      | none => rw [hr] at h; cases h
      | some j =>
        rw [hr] at h; simp at h; subst h
        obtain ⟨x, hx, hp⟩ := fidx_lt hr
        exact ⟨x, by simpa using hx, hp⟩
theorem fidx_isSome {α : Type} {p : α → Bool} : ∀ l : List α, (fidx p l).isSome = l.any p
  | [] => rfl
  | y :: r => by
    simp only [fidx, List.any_cons]
    split
    · rename_i hp; simp [hp]
    · rename_i hp; simp [hp, fidx_isSome r]

set_option maxRecDepth 100000 in
set_option maxHeartbeats 400000 in
theorem indexStrs_ok (S : Nat → Prop) (l : List ByteArray) (v : Value) (s : ByteArray) (w : World) (hl : StrsAt S w l v) :
    Calls Try.prog 46 #[v, .string s] w fun e w' => e = .returned (.int .i64 (pos (fidx (fun x => s.toList == x.toList) l))) ∧ w = w' := by
  obtain ⟨A, cap, rfl, hl0, hl1, hl2, hls, hlr⟩ := hl
  rw [LIM_eq] at hl0
  rw [maxLen_eq] at hl2
  have HL := Lib.hid hlr
  clear hlr hls
  go_enter Try.func46, Try.ntmps46
  go_wp2_with fail
  go_loop [8] (fun i => ∃ k : Nat, k ≤ l.length ∧ i = .int .i64 k ∧ Hid (∀ i x, i < k → l[i]? = some x → (s.toList == x.toList) = false)) (fun i => l.length - (intOf i).toNat)
  case atStart => exact ⟨0, Nat.zero_le _, rfl, fun _ _ h => by omega⟩
  case round =>
    obtain ⟨k, hk, rfl, Hall⟩ := hrel
    by_cases hlt : k < l.length
    · obtain ⟨b, o, rfl, hSb, hrow⟩ := HL.out (by omega)
      obtain ⟨x, hx⟩ : ∃ x, l[k]? = some x := ⟨_, List.getElem?_eq_getElem hlt⟩
      have hcx := hrow k (.string x) (by simp [hx])
      have Hx := Lib.hid hx
      clear hx hrow hSb
      go_wp2_with fail
      · have he : (s.toList == x.toList) = true := by assumption
        go_ret
        exact ⟨ret_int (by rw [fidx_some Hx.out he Hall.out]; rfl), rfl⟩
      · have he : (s.toList == x.toList) = false := by assumption
        go_round
        case rel => exact ⟨k + 1, by omega, by go_num, fun i p hi hp => by
          by_cases hik : i = k
          · subst hik; rw [Hx.out] at hp; cases hp; exact he
          · exact Hall.out i p (by omega) hp⟩
        case measure => simp [intOf]; omega
    · go_wp2_with fail
      go_ret
      have hke : k = l.length := by omega
      subst hke
      exact ⟨ret_int (by rw [fidx_none Hall.out]; rfl), rfl⟩

/-- where a record has a name -/
def Val.find (v : Val) (s : ByteArray) : Option Nat :=
  if v.kind = 6 then (fidx (fun x : ByteArray => s.toList == x.toList) v.names).bind fun i => if i < v.items.length then some i else none else none

set_option maxRecDepth 100000 in
set_option maxHeartbeats 400000 in
theorem getR_ok (v : Val) (s : ByteArray) (S : Nat → Prop) (w : World) (cs : List Value) (hS : ∀ b, S b → b < w.heap.size) (h : Val.At S w v cs) :
    Calls Try.prog 23 #[.agg cs.toArray, .string s] w fun e w' => e = .returned (.int .i64 (pos (v.find s))) ∧ Ext w w' := by
  cases v with
  | mk k bo i t ut ui items names =>
  unfold Val.At at h
  obtain ⟨A, cap, nv, rfl, _, ⟨hb2, hb4, hb5⟩, hitems, A2, cap2, rfl, hl0, hl1, hl2, hls, hlr⟩ := h
  rw [maxLen_eq] at hb5 hl2
  rw [LIM_eq] at hb2 hl0
  have HL := Lib.hid hlr
  have HS := Lib.hid hS
  have Hf := Lib.hid (show Val.find (.mk k bo i t ut ui items names) s = if k = 6 then (fidx (fun x : ByteArray => s.toList == x.toList) names).bind fun i => if i < items.length then some i else none else none from rfl)
  clear hitems hls hlr hS
  generalize hg : Val.find (.mk k bo i t ut ui items names) s = r at *
  have HG := Lib.hid hg
  clear hg
  by_cases hk : k = 6
  case neg =>
    have e6 : (k != 6) = true := by simpa using hk
    have H := Lib.hid hk
    clear hk
    go_enter Try.func23, Try.ntmps23
    go_wp2_with fail
    go_ret
    exact ⟨ret_int (by rw [Hf.out, if_neg H.out]; rfl), (Ext.refl w).alloc _⟩
  subst hk
  go_enter Try.func23, Try.ntmps23
  go_wp2_with fail
  go_loop [5] (fun i => ∃ k : Nat, k ≤ names.length ∧ i = .int .i64 k ∧ Hid (∀ i x, i < k → names[i]? = some x → (x.toList == s.toList) = false)) (fun i => names.length - (intOf i).toNat)
  case atStart => exact ⟨0, Nat.zero_le _, rfl, fun _ _ h => by omega⟩
  case round =>
    obtain ⟨j, hk, rfl, Hall⟩ := hrel
    have hall' : ∀ i x, i < j → names[i]? = some x → (s.toList == x.toList) = false := fun i x hi hx => by
      have := Hall.out i x hi hx
      rw [beq_eq_false_iff_ne] at this ⊢
      exact fun e => this e.symm
    have Hall' := Lib.hid hall'
    clear hall'
    by_cases hlt : j < names.length
    · obtain ⟨b, o, rfl, hSb, hrow⟩ := HL.out (by omega)
      obtain ⟨x, hx⟩ : ∃ x, names[j]? = some x := ⟨_, List.getElem?_eq_getElem hlt⟩
      have hbl := HS.out b hSb
      have hcx : (w.alloc (.cells #[.int .i64 6, .bool bo, .int .i64 i, .string t, .string ut, .string ui, .slice A items.length cap, .slice (some ⟨b, o, none⟩) names.length cap2] 27)).cell? ⟨b, o + j, none⟩ = some (.string x) := by
        rw [World.cell?_alloc_lt _ _ _ (by exact hbl)]; exact hrow j (.string x) (by simp [hx])
      have Hx := Lib.hid hx
      clear hx hrow hSb hbl
      go_wp2_with fail
      · have he : (x.toList == s.toList) = true := by assumption
        have hj : items.length ≤ j := by assumption
        have he' : (s.toList == x.toList) = true := by rw [beq_iff_eq] at he ⊢; exact he.symm
        go_ret
        exact ⟨ret_int (by rw [Hf.out]; simp [fidx_some (p := fun x : ByteArray => s.toList == x.toList) Hx.out he' Hall'.out, pos, Nat.not_lt.2 hj]), (Ext.refl w).alloc _⟩
      · have he : (x.toList == s.toList) = true := by assumption
        have hj : ¬ items.length ≤ j := by assumption
        have he' : (s.toList == x.toList) = true := by rw [beq_iff_eq] at he ⊢; exact he.symm
        go_ret
        exact ⟨ret_int (by rw [Hf.out]; simp [fidx_some (p := fun x : ByteArray => s.toList == x.toList) Hx.out he' Hall'.out, pos, Nat.not_le.1 hj]), (Ext.refl w).alloc _⟩
      · have he : (x.toList == s.toList) = false := by assumption
        go_round
        case rel => exact ⟨j + 1, by omega, by go_num, fun i p hi hp => by
          by_cases hik : i = j
          · subst hik; rw [Hx.out] at hp; cases hp; exact he
          · exact Hall.out i p (by omega) hp⟩
        case measure => simp [intOf]; omega
    · go_wp2_with fail
      go_ret
      have hke : j = names.length := by omega
      subst hke
      exact ⟨ret_int (by rw [Hf.out]; simp [fidx_none Hall'.out, pos]), (Ext.refl w).alloc _⟩

theorem same_ok (a b : Val) (S : Nat → Prop) (w : World) (ca cb : List Value) (hS : ∀ b, S b → b < w.heap.size) (ha : Val.At S w a ca) (hb : Val.At S w b cb) :
    Calls Try.prog 26 #[.agg ca.toArray, .agg cb.toArray] w fun en w' => en = .returned (.bool (a.ord b == 0)) ∧ Ext w w' := by
  obtain ⟨k1, b1, n1, t1, ut1, ui1, A1, l1, c1, A2, l2, c2, rfl⟩ := ha.shape
  obtain ⟨k3, b3, n3, t3, ut3, ui3, A3, l3, c3, A4, l4, c4, rfl⟩ := hb.shape
  have HS := Lib.hid hS
  have Ha := Lib.hid ha
  have Hb := Lib.hid hb
  clear hS ha hb
  go_enter Try.func26, Try.ntmps26
  go_wp2_with (go_at_call 25; refine (order_ok _ a b S _ [_, _, _, _, _, _, _, _] [_, _, _, _, _, _, _, _] (Nat.le_refl _) (fun b hb => Nat.lt_of_lt_of_le (HS.out b hb) (((Ext.refl w).alloc _).alloc _).size) (Ha.out.alike (Alike.of_ext (((Ext.refl w).alloc _).alloc _) HS.out)) (Hb.out.alike (Alike.of_ext (((Ext.refl w).alloc _).alloc _) HS.out))).mono ?_; rintro e w' ⟨rfl, hx2⟩; have HX2 := Lib.hid hx2; clear hx2)
  go_ret
  exact ⟨rfl, (((Ext.refl w).alloc _).alloc _).trans HX2.out⟩

set_option maxRecDepth 100000 in
set_option maxHeartbeats 400000 in
theorem indexFunc_okV (g : Nat) (cb : Array Value) (p : Val → Bool) (S : Nat → Prop) (l : List Val) (v : Value) (w : World) (eg : ∀ args w, (callFunc g args).run Try.prog w = .ok (.enter g args) w)
    (hS : ∀ b, S b → b < w.heap.size) (hl : ValsAt S w l v)
    (hc : ∀ x ∈ l, ∀ (w1 : World) (cx : List Value), Ext w w1 → Val.At S w1 x cx → Calls Try.prog g (#[.agg cx.toArray] ++ cb) w1 fun e w' => e = .returned (.bool (p x)) ∧ Ext w1 w') :
    Calls Try.prog 79 #[v, .func (.func g) #[] cb] w fun e w' => e = .returned (.int .i64 (pos (fidx p l))) ∧ Ext w w' := by
  obtain ⟨A, cap, rfl, ⟨hl0, hl1, hl2⟩, hlr⟩ := hl
  rw [LIM_eq] at hl0
  rw [maxLen_eq] at hl2
  have HL := Lib.hid hlr
  have HS := Lib.hid hS
  have HC := Lib.hid hc
  clear hlr hS hc
  go_enter Try.func79, Try.ntmps79
  go_wp2_with fail
  go_loopw [8] (fun i wr => ∃ k : Nat, k ≤ l.length ∧ i = .int .i64 k ∧ Ext w wr ∧ Hid (∀ i x, i < k → l[i]? = some x → p x = false)) (fun i _ => l.length - (intOf i).toNat)
  case atStart => exact ⟨0, Nat.zero_le _, rfl, Ext.refl w, fun _ _ h => by omega⟩
  case round =>
    obtain ⟨k, hk, rfl, hext, Hall⟩ := hrel
    have HX := Lib.hid hext
    clear hext
    by_cases hlt : k < l.length
    · obtain ⟨b, o, rfl, hSb, hrow⟩ := HL.out (by omega)
      obtain ⟨x, hx⟩ : ∃ x, l[k]? = some x := ⟨_, List.getElem?_eq_getElem hlt⟩
      obtain ⟨cs, hcl, hca, hxa⟩ := hrow.get hx
      have Hca := Lib.hid (hca.alike hSb (Alike.of_ext HX.out HS.out))
      have Hxa := Lib.hid (hxa.alike (Alike.of_ext HX.out HS.out))
      have Hx := Lib.hid hx
      have Hcl := Lib.hid hcl
      have hgen := HC.out x (List.mem_of_getElem? hx) wr cs HX.out Hxa.out
      generalize hpx : p x = px at *
      have HP := Lib.hid hpx
      have HG := Lib.hid hgen
      clear hx hxa hca hrow hcl hSb hpx hgen
      go_wp2_with (first | refine wpList_load_cells rfl 27 _ rfl b (o + k * 8) rfl Try.agg27 Try.size27 Hcl.out Hca.out ?_)
      refine HG.out.mono ?_
      rintro e w' ⟨rfl, hx2⟩
      have HX2 := Lib.hid hx2
      clear hx2
      cases px
      · go_wp2_with fail
        go_roundw
        case rel => exact ⟨k + 1, by omega, by go_num, HX.out.trans HX2.out, fun i y hi hy => by
          by_cases hik : i = k
          · subst hik; rw [Hx.out] at hy; cases hy; exact HP.out
          · exact Hall.out i y (by omega) hy⟩
        case measure => simp [intOf]; omega
      · go_wp2_with fail
        go_ret
        exact ⟨ret_int (by rw [fidx_some Hx.out HP.out Hall.out]; rfl), HX.out.trans HX2.out⟩
    · go_wp2_with fail
      go_ret
      have hke : k = l.length := by omega
      subst hke
      exact ⟨ret_int (by rw [fidx_none Hall.out]; rfl), HX.out⟩

theorem containsFunc_okV (g : Nat) (cb : Array Value) (p : Val → Bool) (S : Nat → Prop) (l : List Val) (v : Value) (w : World) (eg : ∀ args w, (callFunc g args).run Try.prog w = .ok (.enter g args) w)
    (hS : ∀ b, S b → b < w.heap.size) (hl : ValsAt S w l v)
    (hc : ∀ x ∈ l, ∀ (w1 : World) (cx : List Value), Ext w w1 → Val.At S w1 x cx → Calls Try.prog g (#[.agg cx.toArray] ++ cb) w1 fun e w' => e = .returned (.bool (p x)) ∧ Ext w1 w') :
    Calls Try.prog 47 #[v, .func (.func g) #[] cb] w fun e w' => e = .returned (.bool (l.any p)) ∧ Ext w w' := by
  have hi := indexFunc_okV g cb p S l v w eg hS hl hc
  rw [← fidx_isSome]
  cases hf : fidx p l with
  | none =>
    rw [hf] at hi
    have HI := Lib.hid hi
    clear hi hc hS hl hf eg
    go_enter Try.func47, Try.ntmps47
    go_wp2_with (go_at_call 79; refine HI.out.mono ?_; rintro e w' ⟨rfl, hx2⟩; have HX2 := Lib.hid hx2; clear hx2)
    go_ret
    exact ⟨rfl, HX2.out⟩
  | some i =>
    rw [hf] at hi
    have HI := Lib.hid hi
    clear hi hc hS hl hf eg
    go_enter Try.func47, Try.ntmps47
    go_wp2_with (go_at_call 79; refine HI.out.mono ?_; rintro e w' ⟨rfl, hx2⟩; have HX2 := Lib.hid hx2; clear hx2)
    go_ret
    exact ⟨ret_bool (by simp [pos]), HX2.out⟩

theorem Try.enter48 : ∀ args w, (callFunc 48 args).run Try.prog w = .ok (.enter 48 args) w := fun _ _ => by kernel_rfl

/-- whether a set has a value -/
def Val.holds (v x : Val) : Bool := v.kind == 5 && v.items.any fun y => y.ord x == 0

set_option maxRecDepth 100000 in
theorem holds1_ok (x y : Val) (S : Nat → Prop) (w : World) (cx cy : List Value) (g : Nat) (hS : ∀ b, S b → b < w.heap.size) (hx : Val.At S w x cx) (hy : Val.At S w y cy) (hg : w.heap[g]? = some (.cells cy.toArray 27 (0, 0))) :
    Calls Try.prog 48 #[.agg cx.toArray, .pointer (some ⟨g, 0, none⟩)] w fun en w' => en = .returned (.bool (x.ord y == 0)) ∧ Ext w w' := by
  obtain ⟨k1, b1, n1, t1, ut1, ui1, A1, l1, c1, A2, l2, c2, rfl⟩ := hx.shape
  obtain ⟨k3, b3, n3, t3, ut3, ui3, A3, l3, c3, A4, l4, c4, rfl⟩ := hy.shape
  have HS := Lib.hid hS
  have Hx := Lib.hid hx
  have Hy := Lib.hid hy
  have HG := Lib.hid (show CellsAt w g 0 [.int .i64 k3, .bool b3, .int .i64 n3, .string t3, .string ut3, .string ui3, .slice A3 l3 c3, .slice A4 l4 c4] from fun j v hj => by rw [cell_of_row _ _ _ _ _ _ hg]; simpa using hj)
  have HGl := Lib.hid (Blk_lt hg)
  clear hS hx hy hg
  go_enter Try.func48, Try.ntmps48
  go_wp2_with (first | refine wpList_load_cells rfl 27 _ rfl g 0 rfl Try.agg27 Try.size27 rfl (HG.out.alloc HGl.out _) ?_ | (go_at_call 26; refine (same_ok x y S _ [_, _, _, _, _, _, _, _] [_, _, _, _, _, _, _, _] (fun b hb => Nat.lt_of_lt_of_le (HS.out b hb) ((Ext.refl w).alloc _).size) (Hx.out.alike (Alike.of_ext ((Ext.refl w).alloc _) HS.out)) (Hy.out.alike (Alike.of_ext ((Ext.refl w).alloc _) HS.out))).mono ?_; rintro e w' ⟨rfl, hx2⟩; have HX2 := Lib.hid hx2; clear hx2))
  go_ret
  exact ⟨rfl, ((Ext.refl w).alloc _).trans HX2.out⟩

set_option maxRecDepth 100000 in
theorem holds_ok (v x : Val) (S : Nat → Prop) (w : World) (cv cx : List Value) (hS : ∀ b, S b → b < w.heap.size) (hv : Val.At S w v cv) (hx : Val.At S w x cx) :
    Calls Try.prog 24 #[.agg cv.toArray, .agg cx.toArray] w fun en w' => en = .returned (.bool (v.holds x)) ∧ Ext w w' := by
  cases v with
  | mk k bo i t ut ui items names =>
  obtain ⟨k3, b3, n3, t3, ut3, ui3, A3, l3, c3, A4, l4, c4, rfl⟩ := hx.shape
  have hh : Val.holds (.mk k bo i t ut ui items names) x = (k == 5 && items.any fun y => y.ord x == 0) := rfl
  generalize Val.holds (.mk k bo i t ut ui items names) x = r at *
  obtain ⟨k1, b1, n1, t1, ut1, ui1, A1, l1, c1, A2, l2, c2, rfl⟩ := hv.shape
  have hvs := hv.vals
  have hk1 : k1 = k := by unfold Val.At at hv; obtain ⟨_, _, _, he, _⟩ := hv; simp at he; exact he.1
  subst hk1
  have HS := Lib.hid hS
  have Hv := Lib.hid hvs
  have Hx := Lib.hid hx
  have HH := Lib.hid hh
  clear hS hvs hv hx hh
  by_cases hk : k1 = 5
  · subst hk
    go_enter Try.func24, Try.ntmps24
    go_wp2_with fail
    refine (containsFunc_okV 48 #[.pointer (some ⟨w.heap.size + 1, 0, none⟩)] (fun y => y.ord x == 0) S items _ _ Try.enter48 (fun b hb => Nat.lt_of_lt_of_le (HS.out b hb) (((Ext.refl w).alloc _).alloc _).size) (Hv.out.alike (Alike.of_ext (((Ext.refl w).alloc _).alloc _) HS.out)) (fun y hy w1 cy hw1 hya => holds1_ok y x S w1 cy [.int .i64 k3, .bool b3, .int .i64 n3, .string t3, .string ut3, .string ui3, .slice A3 l3 c3, .slice A4 l4 c4] (w.heap.size + 1) (fun b hb => Nat.lt_of_lt_of_le (HS.out b hb) ((((Ext.refl w).alloc _).alloc _).trans hw1).size) hya (Hx.out.alike (Alike.of_ext ((((Ext.refl w).alloc _).alloc _).trans hw1) HS.out)) ((hw1.block _ (by simp)).trans (by simpa using heap_alloc_new (w.alloc _) _)))).mono ?_
    rintro e w' ⟨rfl, hx2⟩
    have HX2 := Lib.hid hx2
    clear hx2
    generalize items.any (fun y => y.ord x == 0) = q at *
    go_wp2_with fail
    go_ret
    exact ⟨ret_bool (by rw [HH.out]; rfl), (((Ext.refl w).alloc _).alloc _).trans HX2.out⟩
  · have e5 : (k1 == 5) = false := by simpa using hk
    clear hk
    go_enter Try.func24, Try.ntmps24
    go_wp2_with fail
    go_ret
    exact ⟨ret_bool (by rw [HH.out, e5]; rfl), ((Ext.refl w).alloc _).alloc _⟩

/-- no value -/
def Val.zero : Val := .mk 0 false 0 ByteArray.empty ByteArray.empty ByteArray.empty [] []
def zeroCells : List Value := [.int .i64 0, .bool false, .int .i64 0, .string ByteArray.empty, .string ByteArray.empty, .string ByteArray.empty, .slice none 0 0, .slice none 0 0]
theorem Val.zero_at (S : Nat → Prop) (w : World) : Val.At S w .zero zeroCells := by
  unfold Val.zero Val.At
  refine ⟨none, 0, .slice none 0 0, rfl, ⟨by unfold I64; omega, by unfold I64; omega, by simp, by simp, by simp⟩, ⟨by simp, by simp, by simp⟩, by simp, ⟨none, 0, rfl, by simp, by simp, by simp, by simp, by simp⟩⟩

/-- a value and a bool -/
def ValBool (S : Nat → Prop) (x : Val) (b : Bool) (w : World) (e : Ending) (w' : World) : Prop := ∃ cs : List Value, e = .returned (.tuple #[.agg cs.toArray, .bool b]) ∧ Val.At S w' x cs ∧ Ext w w'

set_option maxRecDepth 100000 in
theorem get_ok (v : Val) (s : ByteArray) (S : Nat → Prop) (w : World) (cs : List Value) (hS : ∀ b, S b → b < w.heap.size) (h : Val.At S w v cs) :
    Calls Try.prog 22 #[.agg cs.toArray, .string s] w (ValBool S (((v.find s).bind fun i => v.items[i]?).getD .zero) (v.find s).isSome w) := by
  cases v with
  | mk k bo i t ut ui items names =>
  have hf : Val.find (.mk k bo i t ut ui items names) s = if k = 6 then (fidx (fun x : ByteArray => s.toList == x.toList) names).bind fun i => if i < items.length then some i else none else none := rfl
  generalize Val.find (.mk k bo i t ut ui items names) s = r at *
  have hst := h
  obtain ⟨k1, b1, n1, t1, ut1, ui1, A1, l1, c1, A2, l2, c2, rfl⟩ := h.shape
  have hvs := h.vals
  have hss := h.strs
  have hk1 : k1 = k := by unfold Val.At at h; obtain ⟨_, _, _, he, _⟩ := h; simp at he; exact he.1
  subst hk1
  obtain ⟨_, _, e1, ⟨hi1, hi2, hi3⟩, hir⟩ := hvs
  injection e1 with q1 q2 q3
  subst q1 q2 q3
  rw [LIM_eq] at hi1
  rw [maxLen_eq] at hi3
  have HS := Lib.hid hS
  have HR := Lib.hid hir
  have Hst := Lib.hid hss
  have HF := Lib.hid hf
  clear hS hir h hst hf hss
  show Calls Try.prog _ _ w (ValBool S ((r.bind fun i => items[i]?).getD .zero) r.isSome w)
  by_cases hk : k1 = 6
  · subst hk
    cases hx : fidx (fun x : ByteArray => s.toList == x.toList) names with
    | none =>
      have hr : r = none := by rw [HF.out, hx]; rfl
      subst hr
      have HX := Lib.hid hx
      clear hx
      go_enter Try.func22, Try.ntmps22
      go_wp2_with fail
      refine (indexStrs_ok S names _ s _ (Hst.out.alike (Alike.of_ext (((Ext.refl w).alloc _).alloc _) HS.out))).mono ?_
      rintro e w' ⟨rfl, rfl⟩
      rw [HX.out]
      go_wp2_with fail
      exact bodyPost_ret (v := .tuple #[.agg zeroCells.toArray, .bool false]) (by simp [results, Try.results22, go_sem, zeroCells]; rfl) rfl ⟨zeroCells, rfl, Val.zero_at _ _, (((Ext.refl w).alloc _).alloc _)⟩
    | some j =>
      by_cases hj : j < items.length
      · have hr : r = some j := by rw [HF.out, hx]; simp [hj]
        subst hr
        have HX := Lib.hid hx
        clear hx
        obtain ⟨b, o, rfl, hSb, hrow⟩ := HR.out (by omega)
        obtain ⟨x, hx⟩ : ∃ x, items[j]? = some x := ⟨_, List.getElem?_eq_getElem hj⟩
        obtain ⟨cs, hcl, hca, hxa⟩ := hrow.get hx
        have hw1 := ((Ext.refl w).alloc (.cells #[.int .i64 6, .bool b1, .int .i64 n1, .string t1, .string ut1, .string ui1, .slice (some ⟨b, o, none⟩) items.length c1, .slice A2 l2 c2] 27)).alloc (.cells zeroCells.toArray 27)
        have Hca := Lib.hid (hca.alike hSb (Alike.of_ext hw1 HS.out))
        have Hxa := Lib.hid (hxa.alike (Alike.of_ext hw1 HS.out))
        have HxaW := Lib.hid hxa
        have Hcl := Lib.hid hcl
        have Hx := Lib.hid hx
        have HW := Lib.hid hw1
        clear hx hxa hca hrow hcl hSb hw1
        obtain ⟨k3, b3, n3, t3, ut3, ui3, A3, l3, c3, A4, l4, c4, rfl⟩ := Hxa.out.shape
        go_enter Try.func22, Try.ntmps22
        go_wp2_with fail
        refine (indexStrs_ok S names _ s _ (Hst.out.alike (Alike.of_ext (((Ext.refl w).alloc _).alloc _) HS.out))).mono ?_
        rintro e w' ⟨rfl, rfl⟩
        rw [HX.out]
        simp only [pos]
        go_wp2_with (refine wpList_load_cells rfl 27 _ rfl b (o + j * 8) rfl Try.agg27 Try.size27 rfl Hca.out ?_)
        exact bodyPost_ret (v := .tuple #[.agg #[.int .i64 k3, .bool b3, .int .i64 n3, .string t3, .string ut3, .string ui3, .slice A3 l3 c3, .slice A4 l4 c4], .bool true]) (by simp [results, Try.results22, go_sem]) rfl
          ⟨[.int .i64 k3, .bool b3, .int .i64 n3, .string t3, .string ut3, .string ui3, .slice A3 l3 c3, .slice A4 l4 c4], rfl, by
            have h := Hx.out
            simp only [Option.bind_some, h, Option.getD_some]
            exact HxaW.out.alike (Alike.of_ext (((Ext.refl w).alloc _).alloc _) HS.out), (((Ext.refl w).alloc _).alloc _)⟩
      · have hr : r = none := by rw [HF.out, hx]; simp [hj]
        subst hr
        have HX := Lib.hid hx
        clear hx
        have hj' : items.length ≤ j := by omega
        clear hj
        go_enter Try.func22, Try.ntmps22
        go_wp2_with fail
        refine (indexStrs_ok S names _ s _ (Hst.out.alike (Alike.of_ext (((Ext.refl w).alloc _).alloc _) HS.out))).mono ?_
        rintro e w' ⟨rfl, rfl⟩
        rw [HX.out]
        simp only [pos]
        go_wp2_with fail
        exact bodyPost_ret (v := .tuple #[.agg zeroCells.toArray, .bool false]) (by simp [results, Try.results22, go_sem, zeroCells]; rfl) rfl ⟨zeroCells, rfl, Val.zero_at _ _, (((Ext.refl w).alloc _).alloc _)⟩
  · have hr : r = none := by rw [HF.out, if_neg hk]
    subst hr
    have e6 : (k1 != 6) = true := by simpa using hk
    clear hk
    go_enter Try.func22, Try.ntmps22
    go_wp2_with fail
    refine (indexStrs_ok S names _ s _ (Hst.out.alike (Alike.of_ext (((Ext.refl w).alloc _).alloc _) HS.out))).mono ?_
    rintro e w' ⟨rfl, rfl⟩
    generalize pos (fidx (fun x : ByteArray => s.toList == x.toList) names) = q at *
    go_wp2_with fail
    exact bodyPost_ret (v := .tuple #[.agg zeroCells.toArray, .bool false]) (by simp [results, Try.results22, go_sem, zeroCells]; rfl) rfl ⟨zeroCells, rfl, Val.zero_at _ _, (((Ext.refl w).alloc _).alloc _)⟩

end Go.Proofs.Ytpkgkabcikmopaa
