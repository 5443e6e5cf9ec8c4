/-
  What the program's order of values comes to. The conditions: none beyond each contract's own (the values lie in memory as they should).
-/
import Derived.Test.YtpkgkabcikmopaaCmp
namespace Go.Proofs.Ytpkgkabcikmopaa
open Go.RowKit

def ValsAt (S : Nat → Prop) (w : World) (l : List Val) (v : Value) : Prop :=
  ∃ A cap, v = .slice A l.length cap ∧ (l.length ≤ LIM ∧ l.length ≤ cap ∧ cap ≤ maxLen) ∧ (0 < l.length → ∃ b o, A = some ⟨b, o, none⟩ ∧ S b ∧ Val.RowAt S w l b o)

theorem ValsAt.alike {S : Nat → Prop} {w w' : World} {l : List Val} {v : Value} (h : ValsAt S w l v) (k : Alike S w w') : ValsAt S w' l v := by
  obtain ⟨A, cap, h1, h2, h5⟩ := h
  exact ⟨A, cap, h1, h2, fun hn => let ⟨b, o, e, hs, hc⟩ := h5 hn; ⟨b, o, e, hs, hc.alike k hs⟩⟩

theorem Val.At.shape {S : Nat → Prop} {w : World} {v : Val} {cs : List Value} (h : Val.At S w v cs) :
    ∃ k b n t ut ui A l c A2 l2 c2, cs = [.int .i64 k, .bool b, .int .i64 n, .string t, .string ut, .string ui, .slice A l c, .slice A2 l2 c2] := by
  cases v; unfold Val.At at h
  obtain ⟨A, cap, nv, rfl, _, _, _, A2, c2, rfl, _⟩ := h
  exact ⟨_, _, _, _, _, _, _, _, _, _, _, _, rfl⟩

theorem LIM_eq : LIM = 1073741824 := rfl
theorem maxLen_eq : maxLen = 9223372036854775807 := by unfold maxLen; rfl

theorem Try.agg27 : ∀ w, (isAgg 27).run Try.prog w = .ok true w := fun _ => by kernel_rfl
theorem Try.size27 : ∀ w, (Go.sizeOf 27).run Try.prog w = .ok 8 w := fun _ => by kernel_rfl

theorem lexL_drop {α : Type} {c : α → α → Int} : ∀ {k : Nat} {l m : List α}, k ≤ l.length → k ≤ m.length → (∀ i x y, i < k → l[i]? = some x → m[i]? = some y → c x y = 0) → lexL c l m = lexL c (l.drop k) (m.drop k)
  | 0, _, _, _, _, _ => by simp
  | k + 1, [], _, h, _, _ => by simp at h
  | k + 1, _ :: _, [], _, h, _ => by simp at h
  | k + 1, x :: r, y :: s, h1, h2, h => by
    have h0 := h 0 x y (by omega) rfl rfl
    simp only [lexL, lex2, h0, if_true, List.drop_succ_cons]
    exact lexL_drop (by simpa using h1) (by simpa using h2) fun i a b hi ha hb => h (i + 1) a b (by omega) (by simpa using ha) (by simpa using hb)

theorem lexL_at {α : Type} {c : α → α → Int} {k : Nat} {l m : List α} {x y : α} (hx : l[k]? = some x) (hy : m[k]? = some y)
    (h : ∀ i x y, i < k → l[i]? = some x → m[i]? = some y → c x y = 0) (hc : c x y ≠ 0) : lexL c l m = c x y := by
  obtain ⟨h1, rfl⟩ := List.getElem?_eq_some_iff.1 hx
  obtain ⟨h2, rfl⟩ := List.getElem?_eq_some_iff.1 hy
  rw [lexL_drop (by omega) (by omega) h, List.drop_eq_getElem_cons h1, List.drop_eq_getElem_cons h2]
  simp only [lexL, lex2]
  rw [if_neg hc]

theorem lexL_long {α : Type} {c : α → α → Int} {l m : List α} (hl : m.length < l.length) (h : ∀ i x y, i < m.length → l[i]? = some x → m[i]? = some y → c x y = 0) : lexL c l m = 1 := by
  rw [lexL_drop (k := m.length) (by omega) (by omega) h, List.drop_eq_getElem_cons hl]
  rw [List.drop_length]; rfl

theorem lexL_end {α : Type} {c : α → α → Int} {l m : List α} (hl : l.length ≤ m.length) (h : ∀ i x y, i < l.length → l[i]? = some x → m[i]? = some y → c x y = 0) :
    lexL c l m = if l.length < m.length then -1 else 0 := by
  rw [lexL_drop (k := l.length) (by omega) hl h, List.drop_length]
  cases he : m.drop l.length with
  | nil =>
    have := List.drop_eq_nil_iff.1 he
    simp [lexL]; omega
  | cons y s =>
    have : m.length > l.length := by
      rcases Nat.lt_or_ge l.length m.length with h | h
      · exact h
      · rw [List.drop_eq_nil_iff.2 h] at he; cases he
    simp [lexL, this]

theorem named_ok (k : Int) (bo : Bool) (n : Int) (t ut ui : ByteArray) (A A2 : Option Addr) (cap cap2 l l2 : Nat) (w : World) (hl : l ≤ cap) (_hc : cap ≤ maxLen) (hl2 : l2 ≤ maxLen) :
    Calls Try.prog 57 #[.agg #[.int .i64 k, .bool bo, .int .i64 n, .string t, .string ut, .string ui, .slice A l cap, .slice A2 l2 cap2]] w fun e w' =>
      e = .returned (.slice A (min l l2) cap) ∧ Ext w w' := by
  unfold maxLen at *
  go_enter Try.func57, Try.ntmps57
  go_wp2
  · go_ret
    have h : l2 < l := by assumption
    rw [Nat.min_eq_right (by omega)]
    exact ⟨rfl, (Ext.refl w).alloc _⟩
  · go_ret
    have h : ¬ l2 < l := by assumption
    rw [Nat.min_eq_left (by omega)]
    exact ⟨rfl, (Ext.refl w).alloc _⟩

set_option maxRecDepth 100000 in
set_option maxHeartbeats 400000 in
theorem compareFunc_ok (S : Nat → Prop) (l m : List Val) (v v' : Value) (w : World) (hS : ∀ b, S b → b < w.heap.size) (hl : ValsAt S w l v) (hm : ValsAt S w m v')
    (hc : ∀ x ∈ l, ∀ y ∈ m, ∀ (w1 : World) (cx cy : List Value), (∀ b, S b → b < w1.heap.size) → Val.At S w1 x cx → Val.At S w1 y cy →
      Calls Try.prog 25 #[.agg cx.toArray, .agg cy.toArray] w1 fun e w' => e = .returned (.int .i64 (x.ord y)) ∧ Ext w1 w') :
    Calls Try.prog 54 #[v, v', .func (.func 25) #[] #[]] w fun e w' =>
      e = .returned (.int .i64 (lexL Val.ord l m)) ∧ Ext w w' := by
  obtain ⟨A, cap, rfl, ⟨hl0, hl1, hl2⟩, hlr⟩ := hl
  obtain ⟨B, cap', rfl, ⟨hm0, hm1, hm2⟩, hmr⟩ := hm
  rw [LIM_eq] at hl0 hm0
  rw [maxLen_eq] at hl2 hm2
  have HS := Lib.hid hS
  have HC := Lib.hid hc
  have HL := Lib.hid hlr
  have HM := Lib.hid hmr
  clear hS hc hlr hmr
  go_enter Try.func54, Try.ntmps54
  go_wp2_with fail
  go_loopw [13] (fun i wr => ∃ k : Nat, k ≤ l.length ∧ k ≤ m.length ∧ i = .int .i64 k ∧ Ext w wr ∧ Hid (∀ i x y, i < k → l[i]? = some x → m[i]? = some y → x.ord y = 0)) (fun i _ => l.length - (intOf i).toNat)
  case atStart => exact ⟨0, Nat.zero_le _, Nat.zero_le _, rfl, Ext.refl w, fun _ _ _ h => by omega⟩
  case round =>
    obtain ⟨k, hk, hkm, rfl, hext, Hall⟩ := hrel
    have HX := Lib.hid hext
    have HSr := Lib.hid (show ∀ b, S b → b < wr.heap.size from fun b hb => Nat.lt_of_lt_of_le (HS.out b hb) hext.size)
    clear hext
    by_cases hlt : k < l.length
    · obtain ⟨b, o, rfl, hSb, hrow⟩ := HL.out (by omega)
      obtain ⟨x, hx⟩ : ∃ x, l[k]? = some x := ⟨_, List.getElem?_eq_getElem hlt⟩
      obtain ⟨cs, hcl, hca, hxa⟩ := hrow.get hx
      have Hca := Lib.hid (hca.alike hSb (Alike.of_ext HX.out HS.out))
      have Hxa := Lib.hid (hxa.alike (Alike.of_ext HX.out HS.out))
      have Hx := Lib.hid hx
      have Hcl := Lib.hid hcl
      clear hx hxa hca hrow hcl hSb
      by_cases hlm : k < m.length
      · obtain ⟨b', o', rfl, hSb', hrow'⟩ := HM.out (by omega)
        obtain ⟨y, hy⟩ : ∃ y, m[k]? = some y := ⟨_, List.getElem?_eq_getElem hlm⟩
        obtain ⟨cs', hcl', hca', hya⟩ := hrow'.get hy
        have Hcb := Lib.hid (hca'.alike hSb' (Alike.of_ext HX.out HS.out))
        have Hyb := Lib.hid (hya.alike (Alike.of_ext HX.out HS.out))
        have Hy := Lib.hid hy
        have Hcl' := Lib.hid hcl'
        have HSb' := Lib.hid hSb'
        clear hy hya hca' hrow' hcl' hSb'
        obtain ⟨k1, b1, n1, t1, ut1, ui1, A1, l1, c1, A2, l2, c2, rfl⟩ := Hxa.out.shape
        obtain ⟨k3, b3, n3, t3, ut3, ui3, A3, l3, c3, A4, l4, c4, rfl⟩ := Hyb.out.shape
        go_wp2_with (first | refine wpList_load_cells rfl 27 _ rfl b (o + k * 8) rfl Try.agg27 Try.size27 Hcl.out Hca.out ?_ | refine wpList_load_cells rfl 27 _ rfl b' (o' + k * 8) rfl Try.agg27 Try.size27 Hcl'.out (Hcb.out.alloc (Nat.lt_of_lt_of_le (HS.out _ HSb'.out) HX.out.size) _) ?_ | (go_at_call 25; refine (HC.out x (List.mem_of_getElem? Hx.out) y (List.mem_of_getElem? Hy.out) _ [_, _, _, _, _, _, _, _] [_, _, _, _, _, _, _, _] (fun b hb => Nat.lt_of_lt_of_le (HS.out b hb) (((Ext.refl _).trans HX.out).alloc _ |>.alloc _).size) (Hxa.out.alike (Alike.of_ext (((Ext.refl _).alloc _).alloc _) HSr.out)) (Hyb.out.alike (Alike.of_ext (((Ext.refl _).alloc _).alloc _) HSr.out))).mono ?_; rintro e w' ⟨rfl, hx2⟩; have HX2 := Lib.hid hx2; clear hx2))
        · have hne : (x.ord y != 0) = true := by assumption
          go_ret
          exact ⟨ret_int (lexL_at Hx.out Hy.out Hall.out (by simpa using hne)).symm, (((HX.out.alloc _).alloc _).trans HX2.out)⟩
        · have hne : (x.ord y != 0) = false := by assumption
          go_roundw
          case rel => exact ⟨k + 1, by omega, by omega, by go_num, (((HX.out.alloc _).alloc _).trans HX2.out), fun i p q hi hp hq => by
            by_cases hik : i = k
            · subst hik; rw [Hx.out] at hp; rw [Hy.out] at hq; cases hp; cases hq; simpa using hne
            · exact Hall.out i p q (by omega) hp hq⟩
          case measure => simp [intOf]; omega
      · obtain ⟨k1, b1, n1, t1, ut1, ui1, A1, l1, c1, A2, l2, c2, rfl⟩ := Hxa.out.shape
        go_wp2_with (first | refine wpList_load_cells rfl 27 _ rfl b (o + k * 8) rfl Try.agg27 Try.size27 Hcl.out Hca.out ?_)
        go_ret
        have hke : k = m.length := by omega
        subst hke
        exact ⟨ret_int (lexL_long (by omega) Hall.out).symm, HX.out.alloc _⟩
    · have hke : k = l.length := by omega
      subst hke
      by_cases hlm : l.length < m.length
      · go_wp2_with fail
        go_ret
        exact ⟨ret_int (by rw [lexL_end (by omega) Hall.out, if_pos hlm]), HX.out⟩
      · go_wp2_with fail
        go_ret
        exact ⟨ret_int (by rw [lexL_end (by omega) Hall.out, if_neg hlm]), HX.out⟩

set_option maxRecDepth 100000 in
set_option maxHeartbeats 400000 in
theorem compareStrs_ok (S : Nat → Prop) (l m : List ByteArray) (v v' : Value) (w : World) (_hS : ∀ b, S b → b < w.heap.size) (hl : StrsAt S w l v) (hm : StrsAt S w m v') :
    Calls Try.prog 56 #[v, v'] w fun e w' => e = .returned (.int .i64 (lexL cmpS l m)) ∧ w = w' := by
  obtain ⟨A, cap, rfl, hl0, hl1, hl2, hls, hlr⟩ := hl
  obtain ⟨B, cap', rfl, hm0, hm1, hm2, hms, hmr⟩ := hm
  rw [LIM_eq] at hl0 hm0
  rw [maxLen_eq] at hl2 hm2
  have HL := Lib.hid hlr
  have HM := Lib.hid hmr
  clear _hS hlr hmr hls hms
  go_enter Try.func56, Try.ntmps56
  go_wp2_with fail
  go_loop [11] (fun i => ∃ k : Nat, k ≤ l.length ∧ k ≤ m.length ∧ i = .int .i64 k ∧ Hid (∀ i x y, i < k → l[i]? = some x → m[i]? = some y → cmpS x y = 0)) (fun i => l.length - (intOf i).toNat)
  case atStart => exact ⟨0, Nat.zero_le _, Nat.zero_le _, rfl, fun _ _ _ h => by omega⟩
  case round =>
    obtain ⟨k, hk, hkm, rfl, Hall⟩ := hrel
    by_cases hlt : k < l.length
    · obtain ⟨b, o, rfl, hSb, hrow⟩ := HL.out (by omega)
      obtain ⟨x, hx⟩ : ∃ x, l[k]? = some x := ⟨_, List.getElem?_eq_getElem hlt⟩
      have hcx := hrow k (.string x) (by simp [hx])
      have Hx := Lib.hid hx
      clear hx hrow hSb
      by_cases hlm : k < m.length
      · obtain ⟨b', o', rfl, hSb', hrow'⟩ := HM.out (by omega)
        obtain ⟨y, hy⟩ : ∃ y, m[k]? = some y := ⟨_, List.getElem?_eq_getElem hlm⟩
        have hcy := hrow' k (.string y) (by simp [hy])
        have Hy := Lib.hid hy
        clear hy hrow' hSb'
        go_wp2_with (go_at_call 52; refine (compare_string _ _ _).mono ?_; rintro e w' ⟨rfl, rfl⟩)
        · have hne : (cmpS x y != 0) = true := by assumption
          go_ret
          exact ⟨ret_int (lexL_at Hx.out Hy.out Hall.out (by simpa using hne)).symm, rfl⟩
        · have hne : (cmpS x y != 0) = false := by assumption
          go_round
          case rel => exact ⟨k + 1, by omega, by omega, by go_num, fun i p q hi hp hq => by
            by_cases hik : i = k
            · subst hik; rw [Hx.out] at hp; rw [Hy.out] at hq; cases hp; cases hq; simpa using hne
            · exact Hall.out i p q (by omega) hp hq⟩
          case measure => simp [intOf]; omega
      · go_wp2_with fail
        go_ret
        have hke : k = m.length := by omega
        subst hke
        exact ⟨ret_int (lexL_long (by omega) Hall.out).symm, rfl⟩
    · have hke : k = l.length := by omega
      subst hke
      by_cases hlm : l.length < m.length
      · go_wp2_with fail
        go_ret
        exact ⟨ret_int (by rw [lexL_end (by omega) Hall.out, if_pos hlm]), rfl⟩
      · go_wp2_with fail
        go_ret
        exact ⟨ret_int (by rw [lexL_end (by omega) Hall.out, if_neg hlm]), rfl⟩

end Go.Proofs.Ytpkgkabcikmopaa
