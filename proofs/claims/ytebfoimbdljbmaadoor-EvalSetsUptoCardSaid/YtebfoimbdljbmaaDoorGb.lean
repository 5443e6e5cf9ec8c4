/-
  How small a value is, how deep: what the statements' own measures and both Depths come to. The conditions: none beyond each contract's own.
-/
import Derived.Test.YtebfoimbdljbmaaDoorGa
import Derived.Maps.AppendAt
namespace Go.Proofs.YtebfoimbdljbmaaDoor
open Go.RowKit

mutual
/-- how deep -/
def Val.dep : Val → Nat
  | .mk k _ _ _ _ _ items _ => if k = 5 ∨ k = 6 then Val.deps items + 1 else 1
def Val.deps : List Val → Nat
  | [] => 0
  | x :: r => max x.dep (Val.deps r)
end
theorem Val.deps_take_succ : ∀ {l : List Val} {k : Nat} {x : Val}, l[k]? = some x → Val.deps (l.take (k + 1)) = max (Val.deps (l.take k)) x.dep
  | [], _, _, h => by simp at h
  | y :: r, 0, x, h => by simp at h; subst h; simp [Val.deps]
  | y :: r, k + 1, x, h => by
    simp only [List.take_succ_cons, Val.deps]
    rw [Val.deps_take_succ (l := r) (k := k) (by simpa using h), Nat.max_assoc]
theorem Val.deps_mem {x : Val} : ∀ {l : List Val}, x ∈ l → x.dep ≤ Val.deps l
  | y :: r, h => by
    simp only [Val.deps]
    rcases List.mem_cons.1 h with rfl | h
    · omega
    · have := Val.deps_mem h; omega
theorem Val.deps_le {n : Nat} : ∀ {l : List Val}, (∀ x ∈ l, x.dep ≤ n) → Val.deps l ≤ n
  | [], _ => by simp [Val.deps]
  | y :: r, h => by
    have := h y (by simp)
    have := Val.deps_le (l := r) fun x hx => h x (by simp [hx])
    simp only [Val.deps]; omega
theorem Val.deps_take_le (l : List Val) (k : Nat) : Val.deps (l.take k) ≤ Val.deps l := Val.deps_le fun _ hx => Val.deps_mem (List.mem_of_mem_take hx)
theorem Val.dep_pos (v : Val) : 1 ≤ v.dep := by cases v; simp only [Val.dep]; split <;> omega

theorem Val.size_get {l : List Val} {i : Nat} {x : Val} (h : l[i]? = some x) : SizeOf.sizeOf x < SizeOf.sizeOf l := List.sizeOf_lt_of_mem (List.mem_of_getElem? h)

set_option maxRecDepth 100000 in
set_option maxHeartbeats 400000 in
theorem depth_okP (n : Nat) : ∀ (e : Val) (S : Nat → Prop) (w : World) (cs : List Value), SizeOf.sizeOf e ≤ n → e.dep ≤ 1000000 → (∀ b, S b → b < w.heap.size) → Val.At S w e cs →
    Calls Tryd.prog 23 #[.agg cs.toArray] w fun en w' => en = .returned (.int .i64 e.dep) ∧ Ext w w' := by
  induction n with
  | zero => intro e; cases e; simp
  | succ n ih =>
    intro e S w cs hn hd hS h
    cases e with
    | mk k bo i t ut ui items names =>
    unfold Val.At at h
    obtain ⟨A, cap, nv, rfl, _, ⟨hb2, hb4, hb5⟩, hitems, A2, cap2, rfl, hb3⟩ := h
    have hdep : (Val.mk k bo i t ut ui items names).dep = if k = 5 ∨ k = 6 then Val.deps items + 1 else 1 := by rw [Val.dep]
    have Hk := Lib.hid hitems
    have HS := Lib.hid hS
    have Hn := Lib.hid hn
    have IH := Lib.hid ih
    rw [maxLen_eq] at hb5
    rw [LIM_eq] at hb2
    clear hitems hb3 hS hn ih
    by_cases hk : k = 5 ∨ k = 6
    · rw [if_pos hk] at hdep
      rw [hdep] at hd
      have Hd := Lib.hid hdep
      have HD := Lib.hid hd
      clear hdep hd
      rcases hk with rfl | rfl
      all_goals
        go_enter Tryd.func23, Tryd.ntmps23
        go_wp2_with fail
        go_loopw [3, 17] (fun m i' wr => ∃ (j : Nat), j ≤ items.length ∧ i' = .int .i64 j ∧ m = .int .i64 (Val.deps (items.take j)) ∧ (∃ kk : Int, wr.heap[w.heap.size]? = some (.cells #[.int .i64 kk, .bool bo, .int .i64 i, .string t, .string ut, .string ui, .slice A items.length cap, .slice A2 names.length cap2] 28 (0, 0))) ∧ Ext w wr)
          (fun _ i' _ => items.length - (intOf i').toNat)
        case atStart => exact ⟨0, Nat.zero_le _, rfl, by simp [Val.deps], ⟨_, heap_alloc_new _ _⟩, (Ext.refl w).alloc _⟩
        case round =>
          obtain ⟨j, hk, rfl, rfl, ⟨kk, hbox⟩, hext⟩ := hrel
          have c7 := cell_of_row _ _ 6 _ _ _ hbox
          simp at c7
          have HX := Lib.hid hext
          have HB := Lib.hid hbox
          clear hext hbox
          have hdj := Val.deps_take_le items j
          have hdn : Val.deps (items.take j) ≤ 1000000 := by have := HD.out; omega
          by_cases hlt : j < items.length
          · obtain ⟨b, o, rfl, hSb, hrow⟩ := Hk.out (by omega)
            obtain ⟨x, hx⟩ : ∃ x, items[j]? = some x := ⟨_, List.getElem?_eq_getElem hlt⟩
            obtain ⟨cs, hcl, hca, hxa⟩ := hrow.get hx
            have Hca := Lib.hid (hca.alike hSb (Alike.of_ext HX.out HS.out))
            have Hxa := Lib.hid (hxa.alike (Alike.of_ext HX.out HS.out))
            have Hx := Lib.hid hx
            have Hcl := Lib.hid hcl
            have hxd : x.dep ≤ 1000000 := by have := HD.out; have := Val.deps_mem (List.mem_of_getElem? hx); omega
            have Ht := Lib.hid (Val.deps_take_succ hx)
            clear hx hxa hca hrow hcl hSb
            generalize hz : Val.deps (items.take j) = z at *
            have Hz := Lib.hid hz
            clear hz hdj
            obtain ⟨k1, b1, n1, t1, ut1, ui1, A1, l1, c1, A2, l2, c2, rfl⟩ := Hxa.out.shape
            go_wp2_with (first | refine wpList_load_cells rfl 28 _ rfl b (o + j * 8) rfl Tryd.agg27 Tryd.size27 Hcl.out Hca.out ?_ | (go_at_call 23; refine (IH.out x S _ [_, _, _, _, _, _, _, _] (by have := Hn.out; have := Val.size_get Hx.out; simp at *; omega) (by omega) (fun b hb => Nat.lt_of_lt_of_le (HS.out b hb) (HX.out.alloc _).size) (Hxa.out.alike (Alike.of_ext ((Ext.refl _).alloc _) (fun b hb => Nat.lt_of_lt_of_le (HS.out b hb) HX.out.size)))).mono ?_; rintro e w' ⟨rfl, hx2⟩; have HX2 := Lib.hid hx2; clear hx2))
            go_roundw
            case rel => exact ⟨j + 1, by omega, by go_num, by rw [Ht.out]; congr 1; split <;> omega, ⟨_, ((Ext.trans ((Ext.refl wr).alloc _) HX2.out).block _ (Blk_lt HB.out)).trans HB.out⟩, (HX.out.alloc _).trans HX2.out⟩
            case measure => simp [intOf]; omega
          · have hke : j = items.length := by omega
            subst hke
            rw [List.take_length] at hdn ⊢
            clear hdj
            generalize hz : Val.deps items = z at *
            clear hz
            go_wp2_with fail
            go_ret
            exact ⟨ret_int (by rw [Hd.out]; simp), HX.out⟩
    · rw [if_neg hk] at hdep
      have Hd := Lib.hid hdep
      clear hdep hd
      have e5 : (k != 5) = true := by simp; omega
      have e6 : (k != 6) = true := by simp; omega
      clear hk
      go_enter Tryd.func23, Tryd.ntmps23
      go_wp2_with fail
      go_ret
      exact ⟨ret_int (by rw [Hd.out]; rfl), (Ext.refl w).alloc _⟩

end Go.Proofs.YtebfoimbdljbmaaDoor

/-
  Whether two values are the same, field by field: what the reference's comparison comes to. The conditions: none beyond the contract's own.
-/
namespace Go.Proofs.YtebfoimbdljbmaaDoor
open Go.RowKit

/-- a value's box, of which the two slices are known -/
def BoxIs (w : World) (g : Nat) (T : TypeId) (a b : Value) : Prop := ∃ v0 v1 v2 v3 v4 v5, w.heap[g]? = some (.cells #[v0, v1, v2, v3, v4, v5, a, b] T (0, 0))
theorem BoxIs.ext {w w' : World} {g : Nat} {T : TypeId} {a b : Value} (h : BoxIs w g T a b) (k : Ext w w') : BoxIs w' g T a b := by
  obtain ⟨v0, v1, v2, v3, v4, v5, h⟩ := h; exact ⟨v0, v1, v2, v3, v4, v5, (k.block _ (Blk_lt h)).trans h⟩

end Go.Proofs.YtebfoimbdljbmaaDoor

/-
  Finding in values: what Same, Holds, Get and the library's searches come to. The conditions: none beyond each contract's own.
-/
namespace Go.Proofs.YtebfoimbdljbmaaDoor
open Go.RowKit

def fidx {α : Type} (p : α → Bool) : List α → Option Nat
  | [] => none
  | x :: r => if p x then some 0 else (fidx p r).map (· + 1)
def pos : Option Nat → Int
  | none => -1
  | some i => i
theorem fidx_some {α : Type} {p : α → Bool} : ∀ {l : List α} {k : Nat} {x : α}, l[k]? = some x → p x = true → (∀ i y, i < k → l[i]? = some y → p y = false) → fidx p l = some k
  | [], _, _, h, _, _ => by simp at h
  | y :: r, 0, x, h, hp, _ => by simp at h; subst h; simp [fidx, hp]
  | y :: r, k + 1, x, h, hp, hall => by
    have h0 := hall 0 y (by omega) rfl
    simp only [fidx, h0, Bool.false_eq_true, if_false]
    rw [fidx_some (l := r) (k := k) (by simpa using h) hp fun i z hi hz => hall (i + 1) z (by omega) (by simpa using hz)]
    rfl
theorem fidx_none {α : Type} {p : α → Bool} : ∀ {l : List α}, (∀ i y, i < l.length → l[i]? = some y → p y = false) → fidx p l = none
  | [], _ => rfl
  | y :: r, hall => by
    have h0 := hall 0 y (by simp) rfl
    simp only [fidx, h0, Bool.false_eq_true, if_false]
    rw [fidx_none (l := r) fun i z hi hz => hall (i + 1) z (by simpa using hi) (by simpa using hz)]
    rfl
theorem fidx_isSome {α : Type} {p : α → Bool} : ∀ l : List α, (fidx p l).isSome = l.any p
  | [] => rfl
  | y :: r => by
    simp only [fidx, List.any_cons]
    split
    · rename_i hp; simp [hp]
    · rename_i hp; simp [hp, fidx_isSome r]


/-- where a record has a name -/
def Val.find (v : Val) (s : ByteArray) : Option Nat :=
  if v.kind = 6 then (fidx (fun x : ByteArray => s.toList == x.toList) v.names).bind fun i => if i < v.items.length then some i else none else none

theorem same_ok (a b : Val) (S : Nat → Prop) (w : World) (ca cb : List Value) (hS : ∀ b, S b → b < w.heap.size) (ha : Val.At S w a ca) (hb : Val.At S w b cb) :
    Calls Tryd.prog 30 #[.agg ca.toArray, .agg cb.toArray] w fun en w' => en = .returned (.bool (a.ord b == 0)) ∧ Ext w w' := by
  obtain ⟨k1, b1, n1, t1, ut1, ui1, A1, l1, c1, A2, l2, c2, rfl⟩ := ha.shape
  obtain ⟨k3, b3, n3, t3, ut3, ui3, A3, l3, c3, A4, l4, c4, rfl⟩ := hb.shape
  have HS := Lib.hid hS
  have Ha := Lib.hid ha
  have Hb := Lib.hid hb
  clear hS ha hb
  go_enter Tryd.func30, Tryd.ntmps30
  go_wp2_with (go_at_call 35; refine (order_ok _ a b S _ [_, _, _, _, _, _, _, _] [_, _, _, _, _, _, _, _] (Nat.le_refl _) (fun b hb => Nat.lt_of_lt_of_le (HS.out b hb) (((Ext.refl w).alloc _).alloc _).size) (Ha.out.alike (Alike.of_ext (((Ext.refl w).alloc _).alloc _) HS.out)) (Hb.out.alike (Alike.of_ext (((Ext.refl w).alloc _).alloc _) HS.out))).mono ?_; rintro e w' ⟨rfl, hx2⟩; have HX2 := Lib.hid hx2; clear hx2)
  go_ret
  exact ⟨rfl, (((Ext.refl w).alloc _).alloc _).trans HX2.out⟩

set_option maxRecDepth 100000 in
set_option maxHeartbeats 400000 in
theorem indexFunc_okV (g : Nat) (cb : Array Value) (p : Val → Bool) (S : Nat → Prop) (l : List Val) (v : Value) (w : World) (eg : ∀ args w, (callFunc g args).run Tryd.prog w = .ok (.enter g args) w)
    (hS : ∀ b, S b → b < w.heap.size) (hl : ValsAt S w l v)
    (hc : ∀ x ∈ l, ∀ (w1 : World) (cx : List Value), Ext w w1 → Val.At S w1 x cx → Calls Tryd.prog g (#[.agg cx.toArray] ++ cb) w1 fun e w' => e = .returned (.bool (p x)) ∧ Ext w1 w') :
    Calls Tryd.prog 63 #[v, .func (.func g) #[] cb] w fun e w' => e = .returned (.int .i64 (pos (fidx p l))) ∧ Ext w w' := by
  obtain ⟨A, cap, rfl, ⟨hl0, hl1, hl2⟩, hlr⟩ := hl
  rw [LIM_eq] at hl0
  rw [maxLen_eq] at hl2
  have HL := Lib.hid hlr
  have HS := Lib.hid hS
  have HC := Lib.hid hc
  clear hlr hS hc
  go_enter Tryd.func63, Tryd.ntmps63
  go_wp2_with fail
  go_loopw [8] (fun i wr => ∃ k : Nat, k ≤ l.length ∧ i = .int .i64 k ∧ Ext w wr ∧ Hid (∀ i x, i < k → l[i]? = some x → p x = false)) (fun i _ => l.length - (intOf i).toNat)
  case atStart => exact ⟨0, Nat.zero_le _, rfl, Ext.refl w, fun _ _ h => by omega⟩
  case round =>
    obtain ⟨k, hk, rfl, hext, Hall⟩ := hrel
    have HX := Lib.hid hext
    clear hext
    by_cases hlt : k < l.length
    · obtain ⟨b, o, rfl, hSb, hrow⟩ := HL.out (by omega)
      obtain ⟨x, hx⟩ : ∃ x, l[k]? = some x := ⟨_, List.getElem?_eq_getElem hlt⟩
      obtain ⟨cs, hcl, hca, hxa⟩ := hrow.get hx
      have Hca := Lib.hid (hca.alike hSb (Alike.of_ext HX.out HS.out))
      have Hxa := Lib.hid (hxa.alike (Alike.of_ext HX.out HS.out))
      have Hx := Lib.hid hx
      have Hcl := Lib.hid hcl
      have hgen := HC.out x (List.mem_of_getElem? hx) wr cs HX.out Hxa.out
      generalize hpx : p x = px at *
      have HP := Lib.hid hpx
      have HG := Lib.hid hgen
      clear hx hxa hca hrow hcl hSb hpx hgen
      go_wp2_with (first | refine wpList_load_cells rfl 28 _ rfl b (o + k * 8) rfl Tryd.agg27 Tryd.size27 Hcl.out Hca.out ?_)
      refine HG.out.mono ?_
      rintro e w' ⟨rfl, hx2⟩
      have HX2 := Lib.hid hx2
      clear hx2
      cases px
      · go_wp2_with fail
        go_roundw
        case rel => exact ⟨k + 1, by omega, by go_num, HX.out.trans HX2.out, fun i y hi hy => by
          by_cases hik : i = k
          · subst hik; rw [Hx.out] at hy; cases hy; exact HP.out
          · exact Hall.out i y (by omega) hy⟩
        case measure => simp [intOf]; omega
      · go_wp2_with fail
        go_ret
        exact ⟨ret_int (by rw [fidx_some Hx.out HP.out Hall.out]; rfl), HX.out.trans HX2.out⟩
    · go_wp2_with fail
      go_ret
      have hke : k = l.length := by omega
      subst hke
      exact ⟨ret_int (by rw [fidx_none Hall.out]; rfl), HX.out⟩

theorem containsFunc_okV (g : Nat) (cb : Array Value) (p : Val → Bool) (S : Nat → Prop) (l : List Val) (v : Value) (w : World) (eg : ∀ args w, (callFunc g args).run Tryd.prog w = .ok (.enter g args) w)
    (hS : ∀ b, S b → b < w.heap.size) (hl : ValsAt S w l v)
    (hc : ∀ x ∈ l, ∀ (w1 : World) (cx : List Value), Ext w w1 → Val.At S w1 x cx → Calls Tryd.prog g (#[.agg cx.toArray] ++ cb) w1 fun e w' => e = .returned (.bool (p x)) ∧ Ext w1 w') :
    Calls Tryd.prog 43 #[v, .func (.func g) #[] cb] w fun e w' => e = .returned (.bool (l.any p)) ∧ Ext w w' := by
  have hi := indexFunc_okV g cb p S l v w eg hS hl hc
  rw [← fidx_isSome]
  cases hf : fidx p l with
  | none =>
    rw [hf] at hi
    have HI := Lib.hid hi
    clear hi hc hS hl hf eg
    go_enter Tryd.func43, Tryd.ntmps43
    go_wp2_with (go_at_call 63; refine HI.out.mono ?_; rintro e w' ⟨rfl, hx2⟩; have HX2 := Lib.hid hx2; clear hx2)
    go_ret
    exact ⟨rfl, HX2.out⟩
  | some i =>
    rw [hf] at hi
    have HI := Lib.hid hi
    clear hi hc hS hl hf eg
    go_enter Tryd.func43, Tryd.ntmps43
    go_wp2_with (go_at_call 63; refine HI.out.mono ?_; rintro e w' ⟨rfl, hx2⟩; have HX2 := Lib.hid hx2; clear hx2)
    go_ret
    exact ⟨ret_bool (by simp [pos]), HX2.out⟩

/-- whether a set has a value -/
def Val.holds (v x : Val) : Bool := v.kind == 5 && v.items.any fun y => y.ord x == 0
theorem Tryd.enter48 : ∀ args w, (callFunc 64 args).run Tryd.prog w = .ok (.enter 64 args) w := fun _ _ => by kernel_rfl


set_option maxRecDepth 100000 in
theorem holds1_ok (x y : Val) (S : Nat → Prop) (w : World) (cx cy : List Value) (g : Nat) (hS : ∀ b, S b → b < w.heap.size) (hx : Val.At S w x cx) (hy : Val.At S w y cy) (hg : w.heap[g]? = some (.cells cy.toArray 28 (0, 0))) :
    Calls Tryd.prog 64 #[.agg cx.toArray, .pointer (some ⟨g, 0, none⟩)] w fun en w' => en = .returned (.bool (x.ord y == 0)) ∧ Ext w w' := by
  obtain ⟨k1, b1, n1, t1, ut1, ui1, A1, l1, c1, A2, l2, c2, rfl⟩ := hx.shape
  obtain ⟨k3, b3, n3, t3, ut3, ui3, A3, l3, c3, A4, l4, c4, rfl⟩ := hy.shape
  have HS := Lib.hid hS
  have Hx := Lib.hid hx
  have Hy := Lib.hid hy
  have HG := Lib.hid (show CellsAt w g 0 [.int .i64 k3, .bool b3, .int .i64 n3, .string t3, .string ut3, .string ui3, .slice A3 l3 c3, .slice A4 l4 c4] from fun j v hj => by rw [cell_of_row _ _ _ _ _ _ hg]; simpa using hj)
  have HGl := Lib.hid (Blk_lt hg)
  clear hS hx hy hg
  go_enter Tryd.func64, Tryd.ntmps64
  go_wp2_with (first | refine wpList_load_cells rfl 28 _ rfl g 0 rfl Tryd.agg27 Tryd.size27 rfl (HG.out.alloc HGl.out _) ?_ | (go_at_call 30; refine (same_ok x y S _ [_, _, _, _, _, _, _, _] [_, _, _, _, _, _, _, _] (fun b hb => Nat.lt_of_lt_of_le (HS.out b hb) ((Ext.refl w).alloc _).size) (Hx.out.alike (Alike.of_ext ((Ext.refl w).alloc _) HS.out)) (Hy.out.alike (Alike.of_ext ((Ext.refl w).alloc _) HS.out))).mono ?_; rintro e w' ⟨rfl, hx2⟩; have HX2 := Lib.hid hx2; clear hx2))
  go_ret
  exact ⟨rfl, ((Ext.refl w).alloc _).trans HX2.out⟩

set_option maxRecDepth 100000 in
theorem holds_ok (v x : Val) (S : Nat → Prop) (w : World) (cv cx : List Value) (hS : ∀ b, S b → b < w.heap.size) (hv : Val.At S w v cv) (hx : Val.At S w x cx) :
    Calls Tryd.prog 46 #[.agg cv.toArray, .agg cx.toArray] w fun en w' => en = .returned (.bool (v.holds x)) ∧ Ext w w' := by
  cases v with
  | mk k bo i t ut ui items names =>
  obtain ⟨k3, b3, n3, t3, ut3, ui3, A3, l3, c3, A4, l4, c4, rfl⟩ := hx.shape
  have hh : Val.holds (.mk k bo i t ut ui items names) x = (k == 5 && items.any fun y => y.ord x == 0) := rfl
  generalize Val.holds (.mk k bo i t ut ui items names) x = r at *
  obtain ⟨k1, b1, n1, t1, ut1, ui1, A1, l1, c1, A2, l2, c2, rfl⟩ := hv.shape
  have hvs := hv.vals
  have hk1 : k1 = k := by unfold Val.At at hv; obtain ⟨_, _, _, he, _⟩ := hv; simp at he; exact he.1
  subst hk1
  have HS := Lib.hid hS
  have Hv := Lib.hid hvs
  have Hx := Lib.hid hx
  have HH := Lib.hid hh
  clear hS hvs hv hx hh
  by_cases hk : k1 = 5
  · subst hk
    go_enter Tryd.func46, Tryd.ntmps46
    go_wp2_with fail
    refine (containsFunc_okV 64 #[.pointer (some ⟨w.heap.size + 1, 0, none⟩)] (fun y => y.ord x == 0) S items _ _ Tryd.enter48 (fun b hb => Nat.lt_of_lt_of_le (HS.out b hb) (((Ext.refl w).alloc _).alloc _).size) (Hv.out.alike (Alike.of_ext (((Ext.refl w).alloc _).alloc _) HS.out)) (fun y hy w1 cy hw1 hya => holds1_ok y x S w1 cy [.int .i64 k3, .bool b3, .int .i64 n3, .string t3, .string ut3, .string ui3, .slice A3 l3 c3, .slice A4 l4 c4] (w.heap.size + 1) (fun b hb => Nat.lt_of_lt_of_le (HS.out b hb) ((((Ext.refl w).alloc _).alloc _).trans hw1).size) hya (Hx.out.alike (Alike.of_ext ((((Ext.refl w).alloc _).alloc _).trans hw1) HS.out)) ((hw1.block _ (by simp)).trans (by simpa using heap_alloc_new (w.alloc _) _)))).mono ?_
    rintro e w' ⟨rfl, hx2⟩
    have HX2 := Lib.hid hx2
    clear hx2
    generalize items.any (fun y => y.ord x == 0) = q at *
    go_wp2_with fail
    go_ret
    exact ⟨ret_bool (by rw [HH.out]; rfl), (((Ext.refl w).alloc _).alloc _).trans HX2.out⟩
  · have e5 : (k1 == 5) = false := by simpa using hk
    clear hk
    go_enter Tryd.func46, Tryd.ntmps46
    go_wp2_with fail
    go_ret
    exact ⟨ret_bool (by rw [HH.out, e5]; rfl), ((Ext.refl w).alloc _).alloc _⟩

/-- no value -/
def Val.zero : Val := .mk 0 false 0 ByteArray.empty ByteArray.empty ByteArray.empty [] []
def zeroCells : List Value := [.int .i64 0, .bool false, .int .i64 0, .string ByteArray.empty, .string ByteArray.empty, .string ByteArray.empty, .slice none 0 0, .slice none 0 0]
theorem Val.zero_at (S : Nat → Prop) (w : World) : Val.At S w .zero zeroCells := by
  unfold Val.zero Val.At
  refine ⟨none, 0, .slice none 0 0, rfl, ⟨by unfold I64; omega, by unfold I64; omega, by simp, by simp, by simp⟩, ⟨by simp, by simp, by simp⟩, by simp, ⟨none, 0, rfl, by simp, by simp, by simp, by simp, by simp⟩⟩


end Go.Proofs.YtebfoimbdljbmaaDoor

/-
  Values as they must be, as plain mathematics: what canon comes to, that sets rise, that the order parts what is unlike. No program in sight. The conditions: none (definitions and lemmas).
-/
namespace Go.Proofs.YtebfoimbdljbmaaDoor
open Go.RowKit

section order
variable {α : Type} {c : α → α → Int}

def Strict (c : α → α → Int) (l : List α) : Prop := l.Pairwise fun a b => c a b = -1
def ins (c : α → α → Int) (x : α) : List α → List α
  | [] => [x]
  | y :: r => if c y x = -1 then y :: ins c x r else if c y x = 0 then y :: r else x :: y :: r
def sortU (c : α → α → Int) (l : List α) : List α := l.foldl (fun a x => ins c x a) []
def dedupFrom (c : α → α → Int) : α → List α → List α
  | _, [] => []
  | p, y :: r => if c y p = 0 then dedupFrom c y r else y :: dedupFrom c y r
def dedup (c : α → α → Int) : List α → List α
  | [] => []
  | x :: r => x :: dedupFrom c x r

theorem mem_ins {x y : α} : ∀ {l : List α}, y ∈ ins c x l → y = x ∨ y ∈ l
  | [], h => by simp [ins] at h; exact .inl h
  | z :: r, h => by
    simp only [ins] at h
    split at h
    · rcases List.mem_cons.1 h with h | h
      · exact .inr (by simp [h])
      · rcases mem_ins h with h | h
        · exact .inl h
        · exact .inr (by simp [h])
    · split at h
      · exact .inr h
      · rcases List.mem_cons.1 h with h | h
        · exact .inl h
        · exact .inr h
theorem mem_ins_old {x y : α} : ∀ {l : List α}, y ∈ l → y ∈ ins c x l
  | z :: r, h => by
    simp only [ins]
    split
    · rcases List.mem_cons.1 h with h | h
      · simp [h]
      · simp [mem_ins_old h]
    · split
      · exact h
      · exact List.mem_cons_of_mem _ h
theorem mem_ins_new {x : α} : ∀ {l : List α}, x ∈ ins c x l ∨ ∃ y ∈ l, c y x = 0
  | [] => by simp [ins]
  | z :: r => by
    simp only [ins]
    split
    · rcases mem_ins_new (x := x) (l := r) with h | ⟨y, hy, h0⟩
      · exact .inl (by simp [h])
      · exact .inr ⟨y, by simp [hy], h0⟩
    · split
      · rename_i h0; exact .inr ⟨z, by simp, h0⟩
      · exact .inl (by simp)

theorem flip1 (hg : ∀ x, GoodAt c x) {x y : α} (h1 : ¬ c y x = -1) (h0 : ¬ c y x = 0) : c x y = -1 := by
  have h2 := (hg y).range x
  have h3 := (hg y).turn x
  omega

theorem ins_strict (hg : ∀ x, GoodAt c x) {x : α} : ∀ {l : List α}, Strict c l → Strict c (ins c x l)
  | [], _ => by simp [ins, Strict]
  | z :: r, h => by
    obtain ⟨hz, hr⟩ := List.pairwise_cons.1 h
    simp only [ins]
    split
    · rename_i h1
      refine List.pairwise_cons.2 ⟨fun y hy => ?_, ins_strict hg hr⟩
      rcases mem_ins hy with rfl | hy
      · exact h1
      · exact hz y hy
    · split
      · exact h
      · rename_i h1 h0
        have hx := flip1 hg h1 h0
        refine List.pairwise_cons.2 ⟨fun y hy => ?_, h⟩
        rcases List.mem_cons.1 hy with rfl | hy
        · exact hx
        · exact (hg x).less z y hx (by have := hz y hy; omega)

theorem strict_head (hg : ∀ x, GoodAt c x) {x : α} {r : List α} (h : Strict c (x :: r)) : x ∉ r := fun hx => by
  have := (List.pairwise_cons.1 h).1 x hx
  rw [(hg x).refl] at this; omega

/-- a rising row is told by its members -/
theorem strict_unique (hg : ∀ x, GoodAt c x) : ∀ {l m : List α}, Strict c l → Strict c m → (∀ x, x ∈ l ↔ x ∈ m) → l = m
  | [], [], _, _, _ => rfl
  | [], y :: s, _, _, h => by have := (h y).2 (by simp); simp at this
  | x :: r, [], _, _, h => by have := (h x).1 (by simp); simp at this
  | x :: r, y :: s, hl, hm, h => by
    have hxy : x = y := by
      rcases List.mem_cons.1 ((h x).1 (by simp)) with e | hx
      · exact e
      · rcases List.mem_cons.1 ((h y).2 (by simp)) with e | hy
        · exact e.symm
        · have h1 := (List.pairwise_cons.1 hl).1 y hy
          have h2 := (List.pairwise_cons.1 hm).1 x hx
          have h3 := (hg x).turn y
          omega
    subst hxy
    rw [strict_unique hg (List.pairwise_cons.1 hl).2 (List.pairwise_cons.1 hm).2 fun z => ?_]
    have hz := h z
    simp only [List.mem_cons] at hz
    by_cases hzx : z = x
    · subst hzx
      exact ⟨fun h1 => absurd h1 (strict_head hg hl), fun h1 => absurd h1 (strict_head hg hm)⟩
    · simpa [hzx] using hz

theorem foldl_ins_strict (hg : ∀ x, GoodAt c x) : ∀ (l a : List α), Strict c a → Strict c (l.foldl (fun a x => ins c x a) a)
  | [], _, h => h
  | _ :: r, _, h => foldl_ins_strict hg r _ (ins_strict hg h)
theorem sortU_strict (hg : ∀ x, GoodAt c x) (l : List α) : Strict c (sortU c l) := foldl_ins_strict hg l [] List.Pairwise.nil

theorem foldl_ins_mem {P : α → Prop} (he : ∀ x y, P x → P y → c x y = 0 → x = y) : ∀ (l a : List α), (∀ x ∈ l, P x) → (∀ x ∈ a, P x) → ∀ y, y ∈ l.foldl (fun a x => ins c x a) a ↔ y ∈ l ∨ y ∈ a
  | [], a, _, _, y => by simp
  | x :: r, a, hl, ha, y => by
    rw [List.foldl_cons, foldl_ins_mem he r _ (fun z hz => hl z (by simp [hz])) (fun z hz => by
      rcases mem_ins hz with rfl | hz
      · exact hl _ (by simp)
      · exact ha z hz)]
    simp only [List.mem_cons]
    constructor
    · rintro (h | h)
      · exact .inl (.inr h)
      · rcases mem_ins h with h | h
        · exact .inl (.inl h)
        · exact .inr h
    · rintro ((h | h) | h)
      · subst h
        rcases mem_ins_new (c := c) (x := y) (l := a) with h | ⟨z, hz, h0⟩
        · exact .inr h
        · have := he z y (ha z hz) (hl y (by simp)) h0
          subst this; exact .inr (mem_ins_old hz)
      · exact .inl h
      · exact .inr (mem_ins_old h)
theorem sortU_mem {P : α → Prop} (he : ∀ x y, P x → P y → c x y = 0 → x = y) {l : List α} (hl : ∀ x ∈ l, P x) (y : α) : y ∈ sortU c l ↔ y ∈ l := by
  rw [sortU, foldl_ins_mem he l [] hl (by simp)]; simp
theorem sortU_mem_of {l : List α} {y : α} (h : y ∈ sortU c l) : y ∈ l := by
  have : ∀ (l a : List α), y ∈ l.foldl (fun a x => ins c x a) a → y ∈ l ∨ y ∈ a := by
    intro l
    induction l with
    | nil => intro a h; exact .inr h
    | cons x r ih =>
      intro a h
      rcases ih _ h with h | h
      · exact .inl (by simp [h])
      · rcases mem_ins h with h | h
        · exact .inl (by simp [h])
        · exact .inr h
  rcases this l [] h with h | h
  · exact h
  · cases h

theorem dedupFrom_mem_of {y : α} : ∀ {l : List α} {p : α}, y ∈ dedupFrom c p l → y ∈ l
  | [], _, h => by simp [dedupFrom] at h
  | z :: r, p, h => by
    simp only [dedupFrom] at h
    split at h
    · exact List.mem_cons_of_mem _ (dedupFrom_mem_of h)
    · rcases List.mem_cons.1 h with h | h
      · simp [h]
      · exact List.mem_cons_of_mem _ (dedupFrom_mem_of h)
theorem dedup_mem_of {y : α} : ∀ {l : List α}, y ∈ dedup c l → y ∈ l
  | [], h => h
  | x :: r, h => by
    rcases List.mem_cons.1 h with h | h
    · simp [h]
    · exact List.mem_cons_of_mem _ (dedupFrom_mem_of h)
theorem dedupFrom_mem {P : α → Prop} (he : ∀ x y, P x → P y → c x y = 0 → x = y) {y : α} : ∀ {l : List α} {p : α}, (∀ x ∈ l, P x) → P p → y ∈ l → y = p ∨ y ∈ dedupFrom c p l
  | z :: r, p, hl, hp, h => by
    have hz := hl z (by simp)
    simp only [dedupFrom]
    split
    · rename_i h0
      have e := he z p hz hp h0
      subst e
      rcases List.mem_cons.1 h with h | h
      · exact .inl h
      · exact dedupFrom_mem he (fun x hx => hl x (by simp [hx])) hz h
    · rcases List.mem_cons.1 h with h | h
      · exact .inr (by simp [h])
      · rcases dedupFrom_mem he (fun x hx => hl x (by simp [hx])) hz h with h | h
        · exact .inr (by simp [h])
        · exact .inr (by simp [h])
theorem dedup_mem {P : α → Prop} (he : ∀ x y, P x → P y → c x y = 0 → x = y) {l : List α} (hl : ∀ x ∈ l, P x) (y : α) : y ∈ dedup c l ↔ y ∈ l := by
  refine ⟨dedup_mem_of, fun h => ?_⟩
  cases l with
  | nil => exact h
  | cons x r =>
    rcases List.mem_cons.1 h with h | h
    · simp [dedup, h]
    · rcases dedupFrom_mem he (fun z hz => hl z (by simp [hz])) (hl x (by simp)) h with h | h
      · simp [dedup, h]
      · simp [dedup, h]
theorem dedupFrom_strict (hg : ∀ x, GoodAt c x) : ∀ {l : List α} {p : α}, (∀ y ∈ l, c p y ≤ 0) → l.Pairwise (fun a b => c a b ≤ 0) → Strict c (dedupFrom c p l) ∧ ∀ y ∈ dedupFrom c p l, c p y = -1
  | [], _, _, _ => by simp [dedupFrom, Strict]
  | z :: r, p, hp, hs => by
    obtain ⟨hz, hr⟩ := List.pairwise_cons.1 hs
    obtain ⟨i1, i2⟩ := dedupFrom_strict hg hz hr
    have hpz := hp z (by simp)
    simp only [dedupFrom]
    split
    · rename_i h0
      refine ⟨i1, fun y hy => ?_⟩
      have := i2 y hy
      rw [← (hg z).cong p y h0] at this
      exact this
    · rename_i h0
      have h1 : c p z = -1 := by
        have h2 := (hg p).range z
        have h3 := (hg p).turn z
        omega
      refine ⟨List.pairwise_cons.2 ⟨i2, i1⟩, fun y hy => ?_⟩
      rcases List.mem_cons.1 hy with rfl | hy
      · exact h1
      · exact (hg p).less z y h1 (by have := i2 y hy; omega)
theorem dedup_strict (hg : ∀ x, GoodAt c x) {l : List α} (hs : l.Pairwise (fun a b => c a b ≤ 0)) : Strict c (dedup c l) := by
  cases l with
  | nil => exact List.Pairwise.nil
  | cons x r =>
    obtain ⟨hx, hr⟩ := List.pairwise_cons.1 hs
    obtain ⟨i1, i2⟩ := dedupFrom_strict hg hx hr
    exact List.pairwise_cons.2 ⟨i2, i1⟩

/-- sorted in whatever way, and each once: the same rising row -/
theorem dedup_sorted (hg : ∀ x, GoodAt c x) {P : α → Prop} (he : ∀ x y, P x → P y → c x y = 0 → x = y) {l l' : List α} (hl : ∀ x ∈ l, P x) (hp : l'.Perm l) (hs : l'.Pairwise (fun a b => c a b ≤ 0)) : dedup c l' = sortU c l :=
  strict_unique hg (dedup_strict hg hs) (sortU_strict hg l) fun x => by
    rw [dedup_mem he (fun x hx => hl x (hp.mem_iff.1 hx)), sortU_mem he hl, hp.mem_iff]

/-- a rising row's own rise is itself -/
theorem sortU_of_strict (hg : ∀ x, GoodAt c x) {P : α → Prop} (he : ∀ x y, P x → P y → c x y = 0 → x = y) {l : List α} (hl : ∀ x ∈ l, P x) (hs : Strict c l) : sortU c l = l :=
  strict_unique hg (sortU_strict hg l) hs fun x => sortU_mem he hl x

end order

/-! ### values as they must be -/

def empty : ByteArray := ByteArray.empty
def cmpN (p q : ByteArray × Val) : Int := cmpS p.1 q.1
theorem GoodAt.cmpN (p : ByteArray × Val) : GoodAt cmpN p := GoodAt.part (c := Go.Proofs.YtebfoimbdljbmaaDoor.cmpS) (fun p : ByteArray × Val => p.1) (GoodAt.cmpS p.1)

/-- a record of names and items that are as they must be -/
def record (names : List ByteArray) (l : List Val) : Val × Int :=
  if names.Nodup then (.mk 6 false 0 empty empty empty ((sortU cmpN (names.zip l)).map (·.2)) ((sortU cmpN (names.zip l)).map (·.1)), 0) else (.zero, 13)

mutual
/-- a value as it must be, or an error -/
def Val.can : Val → Val × Int
  | .mk k bo n t ut ui items names =>
    if k = 1 then (.mk 1 bo 0 empty empty empty [] [], 0) else
    if k = 2 then (.mk 2 false n empty empty empty [] [], 0) else
    if k = 3 then (.mk 3 false 0 t empty empty [] [], 0) else
    if k = 4 then (.mk 4 false 0 empty ut ui [] [], 0) else
    if k = 5 then
      if (Val.cans items).2 ≠ 0 then (.zero, (Val.cans items).2) else
      if 4096 < items.length then (.zero, 12) else
      (.mk 5 false 0 empty empty empty (sortU Val.ord (Val.cans items).1) [], 0) else
    if k = 6 then
      if names.length ≠ items.length then (.zero, 1) else
      if (Val.cans items).2 ≠ 0 then (.zero, (Val.cans items).2) else
      if 4096 < items.length then (.zero, 12) else record names (Val.cans items).1
    else (.zero, 1)
def Val.cans : List Val → List Val × Int
  | [] => ([], 0)
  | x :: r => if x.can.2 ≠ 0 then ([], x.can.2) else if (Val.cans r).2 ≠ 0 then ([], (Val.cans r).2) else (x.can.1 :: (Val.cans r).1, 0)
end

/-- a value as it must be, or refused -/
def Val.canon (v : Val) : Val × Int := if 50 < v.dep then (.zero, 11) else v.can

mutual
/-- is as it must be -/
def Val.Is : Val → Prop
  | .mk k bo n t ut ui items names =>
    (k = 1 ∧ n = 0 ∧ t = empty ∧ ut = empty ∧ ui = empty ∧ items = [] ∧ names = []) ∨
    (k = 2 ∧ bo = false ∧ t = empty ∧ ut = empty ∧ ui = empty ∧ items = [] ∧ names = []) ∨
    (k = 3 ∧ bo = false ∧ n = 0 ∧ ut = empty ∧ ui = empty ∧ items = [] ∧ names = []) ∨
    (k = 4 ∧ bo = false ∧ n = 0 ∧ t = empty ∧ items = [] ∧ names = []) ∨
    (k = 5 ∧ bo = false ∧ n = 0 ∧ t = empty ∧ ut = empty ∧ ui = empty ∧ names = [] ∧ Strict Val.ord items ∧ items.length ≤ 4096 ∧ Val.Are items) ∨
    (k = 6 ∧ bo = false ∧ n = 0 ∧ t = empty ∧ ut = empty ∧ ui = empty ∧ names.length = items.length ∧ Strict cmpS names ∧ items.length ≤ 4096 ∧ Val.Are items)
def Val.Are : List Val → Prop
  | [] => True
  | x :: r => x.Is ∧ Val.Are r
end
theorem Val.are_iff : ∀ l : List Val, Val.Are l ↔ ∀ x ∈ l, x.Is
  | [] => by simp [Val.Are]
  | x :: r => by simp [Val.Are, Val.are_iff r]

theorem Val.ord_mk (k : Int) (bo : Bool) (i : Int) (t ut ui : ByteArray) (items : List Val) (names : List ByteArray) (k' : Int) (bo' : Bool) (i' : Int) (t' ut' ui' : ByteArray) (items' : List Val) (names' : List ByteArray) :
    (Val.mk k bo i t ut ui items names).ord (.mk k' bo' i' t' ut' ui' items' names') = if k ≠ k' then cmpI k k' else
    if k = 1 then cmpI (bit bo) (bit bo') else
    if k = 2 then cmpI i i' else
    if k = 3 then cmpS t t' else
    if k = 4 then lex2 (cmpS ut ut') (cmpS ui ui') else
    if k = 5 then lexL Val.ord items items' else
    if k = 6 then lex2 (lexL cmpS names names') (lexL Val.ord (items.take names.length) (items'.take names'.length)) else 0 := Val.ord_def _ _

/-- what is as it must be is parted by the order -/
theorem Val.eq_of_ord : ∀ (n : Nat) (a b : Val), SizeOf.sizeOf a ≤ n → a.Is → b.Is → a.ord b = 0 → a = b
  | 0, a, _, h, _, _, _ => by cases a; simp at h
  | n + 1, .mk k bo i t ut ui items names, .mk k' bo' i' t' ut' ui' items' names', h, ha, hb, h0 => by
    rw [Val.ord_mk] at h0
    have hk : k = k' := by
      by_cases hk : k = k'
      · exact hk
      · rw [if_pos hk] at h0; unfold cmpI at h0; repeat' split at h0 <;> omega
    subst hk
    rw [if_neg (by simp)] at h0
    have hi : ∀ (l l' : List Val), (∀ x ∈ l, x ∈ items) → Val.Are items → Val.Are items' → (∀ x ∈ l', x ∈ items') → lexL Val.ord l l' = 0 → l = l' := fun l l' h1 h2 h3 h4 h5 =>
      lexL_eq (fun x hx y hy hxy => Val.eq_of_ord n x y (by have := List.sizeOf_lt_of_mem (h1 x hx); simp at h; omega) ((Val.are_iff _).1 h2 x (h1 x hx)) ((Val.are_iff _).1 h3 y (h4 y hy)) hxy) h5
    simp only [Val.Is] at ha hb
    rcases ha with ⟨rfl, ha⟩ | ⟨rfl, ha⟩ | ⟨rfl, ha⟩ | ⟨rfl, ha⟩ | ⟨rfl, ha⟩ | ⟨rfl, ha⟩
    · obtain ⟨rfl, rfl, rfl, rfl, rfl, rfl⟩ := ha
      simp at hb
      obtain ⟨rfl, rfl, rfl, rfl, rfl, rfl⟩ := hb
      simp [cmpI, bit] at h0
      cases bo <;> cases bo' <;> simp_all
    · obtain ⟨rfl, rfl, rfl, rfl, rfl, rfl⟩ := ha
      simp at hb
      obtain ⟨rfl, rfl, rfl, rfl, rfl, rfl⟩ := hb
      simp [cmpI] at h0
      have : i = i' := by repeat' split at h0 <;> omega
      rw [this]
    · obtain ⟨rfl, rfl, rfl, rfl, rfl, rfl⟩ := ha
      simp at hb
      obtain ⟨rfl, rfl, rfl, rfl, rfl, rfl⟩ := hb
      simp at h0
      rw [cmpS_eq h0]
    · obtain ⟨rfl, rfl, rfl, rfl, rfl⟩ := ha
      simp at hb
      obtain ⟨rfl, rfl, rfl, rfl, rfl⟩ := hb
      simp [lex2] at h0
      have h1 : cmpS ut ut' = 0 := by
        split at h0
        · assumption
        · exact h0
      rw [if_pos h1] at h0
      rw [cmpS_eq h1, cmpS_eq h0]
    · obtain ⟨rfl, rfl, rfl, rfl, rfl, rfl, _, _, h2⟩ := ha
      simp at hb
      obtain ⟨rfl, rfl, rfl, rfl, rfl, rfl, _, _, h3⟩ := hb
      simp at h0
      rw [hi items items' (fun _ h => h) h2 h3 (fun _ h => h) h0]
    · obtain ⟨rfl, rfl, rfl, rfl, rfl, hl, _, _, h2⟩ := ha
      simp at hb
      obtain ⟨rfl, rfl, rfl, rfl, rfl, hl', _, _, h3⟩ := hb
      simp [lex2] at h0
      have h1 : lexL cmpS names names' = 0 := by
        split at h0
        · assumption
        · exact h0
      rw [if_pos h1, hl, hl', List.take_length, List.take_length] at h0
      rw [lexL_eq (fun x _ y _ hxy => cmpS_eq hxy) h1, hi items items' (fun _ h => h) h2 h3 (fun _ h => h) h0]

theorem Val.eq_ord {a b : Val} (ha : a.Is) (hb : b.Is) (h : a.ord b = 0) : a = b := Val.eq_of_ord _ a b (Nat.le_refl _) ha hb h

end Go.Proofs.YtebfoimbdljbmaaDoor

/-
  Rows that a call has made itself: appended to, read as values. The conditions: none (definitions and lemmas).
-/
namespace Go.Proofs.YtebfoimbdljbmaaDoor
open Go.RowKit

theorem cell_add {w : World} {b o : Nat} {cs : List Value} (h : CellsAt w b o cs) : ∀ j u, cs[j]? = some u → w.cell? ((⟨b, o, none⟩ : Addr).add j) = some u := fun j u hj => by
  have := h j u hj
  unfold Addr.add
  by_cases h0 : j = 0
  · subst h0; simpa using this
  · simpa [h0] using this

/-- what an append leaves -/
structure GrownBy (w w' : World) (row : Option Nat) : Prop extends w.grownBy w' row where
  drawn : w.drawn ≤ w'.drawn

/-- append onto a row of the call's own -/
theorem wpList_append_at {P : Program} {ops : Array Oper} {rest : List Oper} {o : Oper} {a : Act} {Q : Exit → Act → World → Prop} {w : World} (hgd : o.guard = none) (s x : Operand) (t : TypeId)
    (ho : o.op = .call { callee := .builtin .append, args := #[s, x], argTypes := #[t, t] })
    (base : Nat) (e : TypeId) (i : TypeInfo) (z : Value) (size bytes : Nat) (ht : P.underlying t = some (.slice e)) (hi : P.info? e = some i) (hz : i.zero = some z)
    (hsize : i.size = size) (hby : i.bytes = bytes) (hzs : z.cells.size = size) (hsz : 0 < size)
    (v : Value) (n : Nat) (xs : List Value) (hs : a.eval s = v) (hown : w.ownsRow base e size v n xs)
    (b of m c : Nat) (news : List Value) (hx : a.eval x = .slice (some ⟨b, of, none⟩) m c) (hl : news.length = m * size) (hnews : CellsAt w b of news) (h1 : ∀ u ∈ news, u.oneCell' = true)
    (h63 : n + m ≤ maxLen) (hbytes : (n + m) * bytes ≤ 140737488355328) (hbase : base ≤ w.heap.size)
    (h : ∀ v' w', w'.ownsRow base e size v' (n + m) (xs ++ news) → GrownBy w w' v.ownBlock → (v'.ownBlock = v.ownBlock ∨ v'.ownBlock = some w.heap.size) → wpList P ops Q rest (a.put o.dst v') w') : wpList P ops Q (o :: rest) a w :=
  wpList_plain hgd fun K hK => by
    obtain ⟨v', w', hrun, h2, h3, _, h4⟩ := run_append_own_at (P := P) w base t o.type e i z size bytes ht hi hz hsize hby hzs hsz v n xs hown ⟨b, of, none⟩ m c news hl (cell_add hnews) h1 h63 hbytes hbase
    unfold Oper.wp execOp
    simp only [ho, resolve, invoke, builtin, Sem.run_bind, Sem.run_pure, Result.andThen_ok, List.map_toArray, List.map_cons, List.map_nil, hs, hx, hrun]
    exact hK _ _ (h v' w' h2 ⟨h3, run_drawn _ _ _ _ hrun⟩ h4)

/-- cells that stand for values, one behind the other -/
def Flat (S : Nat → Prop) (w : World) : List Val → List Value → Prop
  | [], xs => xs = []
  | v :: r, xs => ∃ cs ys, xs = cs ++ ys ∧ Val.At S w v cs ∧ Flat S w r ys

theorem Flat.snoc {S : Nat → Prop} {w : World} {x : Val} {cs : List Value} (hx : Val.At S w x cs) : ∀ {l : List Val} {xs : List Value}, Flat S w l xs → Flat S w (l ++ [x]) (xs ++ cs)
  | [], xs, h => by
    simp only [Flat] at h; subst h
    exact ⟨cs, [], by simp, hx, rfl⟩
  | v :: r, xs, h => by
    obtain ⟨c, ys, rfl, hv, hr⟩ := h
    exact ⟨c, ys ++ cs, by simp, hv, Flat.snoc hx hr⟩
theorem Flat.alike {S : Nat → Prop} {w w' : World} (k : Alike S w w') : ∀ {l : List Val} {xs : List Value}, Flat S w l xs → Flat S w' l xs
  | [], _, h => h
  | _ :: _, _, ⟨c, ys, e, hv, hr⟩ => ⟨c, ys, e, hv.alike k, Flat.alike k hr⟩
theorem Flat.mono {S S' : Nat → Prop} {w : World} (k : ∀ b, S b → S' b) : ∀ {l : List Val} {xs : List Value}, Flat S w l xs → Flat S' w l xs
  | [], _, h => h
  | _ :: _, _, ⟨c, ys, e, hv, hr⟩ => ⟨c, ys, e, hv.mono k, Flat.mono k hr⟩
theorem Flat.length {S : Nat → Prop} {w : World} : ∀ {l : List Val} {xs : List Value}, Flat S w l xs → xs.length = l.length * 8
  | [], _, h => by simp only [Flat] at h; subst h; rfl
  | _ :: r, _, ⟨c, ys, e, hv, hr⟩ => by
    subst e
    have := hv.length
    have := Flat.length hr
    simp; omega
theorem Flat.get {S : Nat → Prop} {w : World} : ∀ {l : List Val} {xs : List Value} {i : Nat} {x : Val}, Flat S w l xs → l[i]? = some x → ∃ cs, cs.length = 8 ∧ Val.At S w x cs ∧ ∀ j v, cs[j]? = some v → xs[i * 8 + j]? = some v
  | [], _, _, _, _, h => by simp at h
  | v :: r, _, 0, x, ⟨c, ys, e, hv, hr⟩, h => by
    simp at h; subst h; subst e
    refine ⟨c, hv.length, hv, fun j u hj => ?_⟩
    rw [List.getElem?_append_left (by simpa using (List.getElem?_eq_some_iff.1 hj).1)]
    simpa using hj
  | v :: r, _, i + 1, x, ⟨c, ys, e, hv, hr⟩, h => by
    subst e
    obtain ⟨cs, h1, h2, h3⟩ := Flat.get hr (i := i) (x := x) (by simpa using h)
    refine ⟨cs, h1, h2, fun j u hj => ?_⟩
    have := hv.length
    rw [List.getElem?_append_right (by omega), show (i + 1) * 8 + j - c.length = i * 8 + j from by omega]
    exact h3 j u hj

/-- the blocks that a call has made, but for one -/
def Made (base : Nat) (w : World) (v : Value) (b : Nat) : Prop := base ≤ b ∧ b < w.heap.size ∧ v.ownBlock ≠ some b
/-- the blocks that a call has made -/
def Fresh (base : Nat) (w : World) (b : Nat) : Prop := base ≤ b ∧ b < w.heap.size

theorem Fresh.lt {base : Nat} {w : World} : ∀ b, Fresh base w b → b < w.heap.size := fun _ h => h.2
theorem Fresh.mono {base base' : Nat} {w w' : World} (h1 : base' ≤ base) (h2 : w.heap.size ≤ w'.heap.size) : ∀ b, Fresh base w b → Fresh base' w' b := fun _ h => ⟨by have := h.1; omega, by have := h.2; omega⟩

theorem ownsRow_ext {w w' : World} {base : Nat} {e : TypeId} {size : Nat} {v : Value} {n : Nat} {xs : List Value} (h : w.ownsRow base e size v n xs) (k : Ext w w') : w'.ownsRow base e size v n xs := by
  obtain ⟨h1, h2⟩ := h
  refine ⟨h1, ?_⟩
  rcases h2 with h2 | ⟨g, cap, cur, hv, hg, hh, r⟩
  · exact .inl h2
  · exact .inr ⟨g, cap, cur, hv, hg, (k.block _ (Blk_lt hh)).trans hh, r⟩

/-- an owned row of values is a slice of values -/
theorem own_vals {S S' : Nat → Prop} {w : World} {base : Nat} {e : TypeId} {v : Value} {l : List Val} {xs : List Value} (h : w.ownsRow base e 8 v l.length xs) (hf : Flat S w l xs) (hl : l.length ≤ LIM)
    (h1 : ∀ b, S b → S' b) (h2 : ∀ b, v.ownBlock = some b → S' b) : ValsAt S' w l v := by
  obtain ⟨hx, hv⟩ := h
  rcases hv with ⟨rfl, hn⟩ | ⟨g, cap, cur, rfl, hg, hh, hnc, hcm, hcur, htake⟩
  · exact ⟨none, 0, by rw [hn], ⟨hl, by omega, by simp⟩, by omega⟩
  · refine ⟨_, cap, rfl, ⟨hl, hnc, hcm⟩, fun hn => ⟨g, 0, rfl, h2 g rfl, Val.RowAt.mk fun i x hix => ?_⟩⟩
    obtain ⟨cs, c1, c2, c3⟩ := hf.get hix
    refine ⟨cs, c1, fun j u hj => ?_, c2.mono h1⟩
    have h3 := c3 j u hj
    rw [cell_of_row _ _ _ _ _ _ hh]
    rw [← htake] at h3
    rw [List.getElem?_take] at h3
    split at h3
    · rw [show 0 + i * 8 + j = i * 8 + j from by omega]
      simpa using h3
    · cases h3

theorem cellsAt_new {w : World} {b : Nat} (T : TypeId) (cs : List Value) (hb : b = w.heap.size) : CellsAt (w.alloc (.cells cs.toArray T)) b 0 cs := fun j v hj => by
  subst hb
  rw [cell_of_row _ _ _ _ _ _ (heap_alloc_new w _)]; simpa using hj

/-- one value more behind a row of the call's own -/
theorem flat_step {base : Nat} {wr w1 W2 w2 : World} {e : TypeId} {u v' : Value} {n c0 : Nat} {ys : List Val} {xs cs : List Value} {y : Val} (hown : wr.ownsRow base e 8 u n xs) (hf : Flat (Made base wr u) wr ys xs)
    (h1 : Ext wr w1) (h2 : Ext w1 W2) (hc0 : wr.heap.size ≤ c0) (hb : base ≤ wr.heap.size) (hy : Val.At (Fresh c0 w1) w1 y cs) (hg : GrownBy W2 w2 u.ownBlock) (hv : v'.ownBlock = u.ownBlock ∨ v'.ownBlock = some W2.heap.size) :
    Flat (Made base w2 v') w2 (ys ++ [y]) (xs ++ cs) := by
  have hlt := hown.lt
  have s1 := h1.size
  have s2 := h2.size
  have s3 := hg.size
  refine Flat.snoc ?_ ?_
  · refine (hy.alike (w' := w2) fun b hbf => ?_).mono fun b hbf => ?_
    · obtain ⟨hb1, hb2⟩ := hbf
      rw [hg.block b (by omega) (fun e => by have := hlt b e.symm; omega), h2.block b hb2]
    · obtain ⟨hb1, hb2⟩ := hbf
      refine ⟨by omega, by omega, fun e => ?_⟩
      rcases hv with hv | hv
      · have := hlt b (hv ▸ e); omega
      · rw [hv] at e; injection e with e; omega
  · refine (Flat.alike (w' := w2) (fun b hbf => ?_) hf).mono fun b hbf => ?_
    · obtain ⟨hb1, hb2, hb3⟩ := hbf
      rw [hg.block b (by omega) (fun e => hb3 e.symm), h2.block b (by omega), h1.block b hb2]
    · obtain ⟨hb1, hb2, hb3⟩ := hbf
      refine ⟨hb1, by omega, fun e => ?_⟩
      rcases hv with hv | hv
      · exact hb3 (hv ▸ e)
      · rw [hv] at e; injection e with e; omega

theorem ext_grown {w W2 w2 : World} {e : TypeId} {size n : Nat} {u : Value} {xs : List Value} (h : Ext w W2) (hown : W2.ownsRow w.heap.size e size u n xs) (hg : GrownBy W2 w2 u.ownBlock) : Ext w w2 :=
  ⟨Below.grown h.toBelow hg.togrownBy h.size fun k hk => (hown.lt k hk).1, Nat.le_trans h.drawn hg.drawn⟩

theorem Val.At.one {S : Nat → Prop} {w : World} {v : Val} {cs : List Value} (h : Val.At S w v cs) : ∀ u ∈ cs, u.oneCell' = true := by
  obtain ⟨k, b, n, t, ut, ui, A, l, c, A2, l2, c2, rfl⟩ := h.shape
  intro u hu
  simp at hu
  rcases hu with rfl | rfl | rfl | rfl | rfl | rfl | rfl | rfl <;> rfl
end Go.Proofs.YtebfoimbdljbmaaDoor
