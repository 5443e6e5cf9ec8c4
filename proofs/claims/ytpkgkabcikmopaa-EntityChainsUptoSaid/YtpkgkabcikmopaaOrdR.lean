/-
  What the reference's Order comes to: the same plain function as the program's. The conditions: none beyond each contract's own.
-/
import Derived.Test.YtpkgkabcikmopaaRef3
namespace Go.Proofs.Ytpkgkabcikmopaa
open Go.RowKit

set_option maxRecDepth 100000 in
set_option maxHeartbeats 1600000 in
theorem orderR6_ok (bo bo' : Bool) (i i' : Int) (t t' ut ut' ui ui' : ByteArray) (items items' : List Val) (names names' : List ByteArray) (S : Nat → Prop) (w : World) (A A2 B B2 : Option Addr) (cap cap2 bcap bcap2 : Nat)
    (hS : ∀ b, S b → b < w.heap.size) (ha : Val.At S w (.mk 6 bo i t ut ui items names) [.int .i64 6, .bool bo, .int .i64 i, .string t, .string ut, .string ui, .slice A items.length cap, .slice A2 names.length cap2]) (hb : Val.At S w (.mk 6 bo' i' t' ut' ui' items' names') [.int .i64 6, .bool bo', .int .i64 i', .string t', .string ut', .string ui', .slice B items'.length bcap, .slice B2 names'.length bcap2])
    (hc : ∀ x ∈ items, ∀ y ∈ items', ∀ (w1 : World) (cx cy : List Value), (∀ b, S b → b < w1.heap.size) → Val.At S w1 x cx → Val.At S w1 y cy →
      Calls Try.prog 21 #[.agg cx.toArray, .agg cy.toArray] w1 fun e w' => e = .returned (.int .i64 (x.ord y)) ∧ Ext w1 w') :
    Calls Try.prog 21 #[.agg #[.int .i64 6, .bool bo, .int .i64 i, .string t, .string ut, .string ui, .slice A items.length cap, .slice A2 names.length cap2], .agg #[.int .i64 6, .bool bo', .int .i64 i', .string t', .string ut', .string ui', .slice B items'.length bcap, .slice B2 names'.length bcap2]] w fun en w' =>
      en = .returned (.int .i64 (lex2 (lexL cmpS names names') (lexL Val.ord (items.take names.length) (items'.take names'.length)))) ∧ Ext w w' := by
  have hva := ha.vals
  have hvb := hb.vals
  have hsa := ha.strs
  have hsb := hb.strs
  obtain ⟨_, _, e1, ⟨_, hi2, hi3⟩, _⟩ := id hva
  obtain ⟨_, _, e2, ⟨_, hj2, hj3⟩, _⟩ := id hvb
  injection e1 with q1 _ q2
  injection e2 with q3 _ q4
  subst q1 q2 q3 q4
  obtain ⟨_, _, e1, hn1, hn2, hn3, hns, hnr⟩ := id hsa
  obtain ⟨_, _, e2, hm1, hm2, hm3, hms, hmr⟩ := id hsb
  injection e1 with q1 _ q2
  injection e2 with q3 _ q4
  subst q1 q2 q3 q4
  rw [LIM_eq] at hn1 hm1
  rw [maxLen_eq] at hi3 hj3 hn3 hm3
  have HVa := Lib.hid hva
  have HVb := Lib.hid hvb
  have HS := Lib.hid hS
  have HC := Lib.hid hc
  have HL := Lib.hid hnr
  have HM := Lib.hid hmr
  have HLs := Lib.hid hns
  have HMs := Lib.hid hms
  clear ha hb hva hvb hsa hsb hS hc hnr hmr hns hms
  go_enter Try.func21, Try.ntmps21
  go_wp2_with fail
  go_loopw [6] (fun z wr => ∃ k : Nat, k ≤ names.length ∧ k ≤ names'.length ∧ z = .int .i64 k ∧ wr.heap[w.heap.size]? = some (.cells #[.int .i64 6, .bool bo, .int .i64 i, .string t, .string ut, .string ui, .slice A items.length cap, .slice A2 names.length cap2] 27 (0, 0)) ∧ wr.heap[w.heap.size + 1]? = some (.cells #[.int .i64 6, .bool bo', .int .i64 i', .string t', .string ut', .string ui', .slice B items'.length bcap, .slice B2 names'.length bcap2] 27 (0, 0)) ∧ Ext w wr ∧
      Hid (∀ i x y, i < k → names[i]? = some x → names'[i]? = some y → cmpS x y = 0)) (fun z _ => names.length - (intOf z).toNat)
  case atStart => exact ⟨0, Nat.zero_le _, Nat.zero_le _, rfl, by rw [Below.heap_alloc _ _ _ (by simp)]; exact heap_alloc_new _ _, by simpa using heap_alloc_new (w.alloc _) _, ((Ext.refl w).alloc _).alloc _, fun _ _ _ h => by omega⟩
  case round =>
    obtain ⟨k, hk, hkm, rfl, hb1, hb2, hext, Hall⟩ := hrel
    have HX := Lib.hid hext
    have HSr := Lib.hid (show ∀ b, S b → b < wr.heap.size from fun b hb => Nat.lt_of_lt_of_le (HS.out b hb) hext.size)
    have HB1 := Lib.hid hb1
    have HB2 := Lib.hid hb2
    clear hext hb1 hb2
    have p7 : wr.cell? ⟨w.heap.size, 7, none⟩ = some (.slice A2 names.length cap2) := by rw [cell_of_row _ _ _ _ _ _ HB1.out]; rfl
    have q7 : wr.cell? ⟨w.heap.size + 1, 7, none⟩ = some (.slice B2 names'.length bcap2) := by rw [cell_of_row _ _ _ _ _ _ HB2.out]; rfl
    by_cases hlt : k < names.length
    · obtain ⟨b, o, rfl, hSb, hrow⟩ := HL.out (by omega)
      obtain ⟨x, hx⟩ : ∃ x, names[k]? = some x := ⟨_, List.getElem?_eq_getElem hlt⟩
      have hcx : wr.cell? ⟨b, o + k, none⟩ = some (.string x) := hrow.alike hSb (Alike.of_ext HX.out HS.out) k (.string x) (by simp [hx])
      have Hx := Lib.hid hx
      clear hx hrow hSb
      by_cases hlm : k < names'.length
      · obtain ⟨b', o', rfl, hSb', hrow'⟩ := HM.out (by omega)
        obtain ⟨y, hy⟩ : ∃ y, names'[k]? = some y := ⟨_, List.getElem?_eq_getElem hlm⟩
        have hcy : wr.cell? ⟨b', o' + k, none⟩ = some (.string y) := hrow'.alike hSb' (Alike.of_ext HX.out HS.out) k (.string y) (by simp [hy])
        have Hy := Lib.hid hy
        clear hy hrow' hSb'
        have r1 := cell_regrown hcx
        have r2 := cell_regrown hcy
        have r3 := cell_regrown p7
        have r4 := cell_regrown q7
        go_wp2_with fail
        refine region_later (by kernel_rfl) (by kernel_rfl) ?_
        repeat (quiet_step ((go_at_call 43; exact later_call (fun w1 hw1 => texts_ok x y w1 (HLs.out x (List.mem_of_getElem? Hx.out)) (HMs.out y (List.mem_of_getElem? Hy.out))) _ _)))
        refine wpQuiet_nil ?_
        intro w2 hw2
        have HX2 := Lib.hid hw2
        clear hw2 r1 r2 r3 r4
        go_wp2_with fail
        · have hne : (cmpS x y != 0) = true := by assumption
          go_ret
          exact ⟨ret_int (by rw [lexL_at Hx.out Hy.out Hall.out (by simpa using hne), lex2, if_neg (by simpa using hne)]), HX.out.trans HX2.out⟩
        · have hne : (cmpS x y != 0) = false := by assumption
          go_roundw
          case rel => exact ⟨k + 1, by omega, by omega, by go_num, (HX2.out.block _ (Blk_lt HB1.out)).trans HB1.out, (HX2.out.block _ (Blk_lt HB2.out)).trans HB2.out, HX.out.trans HX2.out, fun i p q hi hp hq => by
            by_cases hik : i = k
            · subst hik; rw [Hx.out] at hp; rw [Hy.out] at hq; cases hp; cases hq; simpa using hne
            · exact Hall.out i p q (by omega) hp hq⟩
          case measure => simp [intOf]; omega
      · have hke : k = names'.length := by omega
        subst hke
        have e0 : ((names.length : Int) != names'.length) = true := by simp; omega
        go_wp2_with (go_at_call 42; refine (ints_ok _ _ _).mono ?_; rintro e w' ⟨rfl, rfl⟩)
        go_ret
        exact ⟨ret_int (by rw [lexL_long (by omega) Hall.out, cmpI, if_neg (by omega), if_pos (by omega)]; rfl), HX.out⟩
    · have hke : k = names.length := by omega
      subst hke
      by_cases hne : names.length = names'.length
      · have hnm : lexL cmpS names names' = 0 := by rw [lexL_end (by omega) Hall.out, if_neg (by omega)]
        have Hnm := Lib.hid hnm
        have e0 : ((names.length : Int) != names'.length) = false := by simp; omega
        have HE := Lib.hid hne
        clear hnm hne
        go_wp2_with fail
        have c0 := cell_regrown (show wr.cell? ⟨w.heap.size, 0, none⟩ = some (.int .i64 6) by rw [cell_of_row _ _ _ _ _ _ HB1.out]; rfl)
        have c1 := cell_regrown (show wr.cell? ⟨w.heap.size, 1, none⟩ = some (.bool bo) by rw [cell_of_row _ _ _ _ _ _ HB1.out]; rfl)
        have c2 := cell_regrown (show wr.cell? ⟨w.heap.size, 2, none⟩ = some (.int .i64 i) by rw [cell_of_row _ _ _ _ _ _ HB1.out]; rfl)
        have c3 := cell_regrown (show wr.cell? ⟨w.heap.size, 3, none⟩ = some (.string t) by rw [cell_of_row _ _ _ _ _ _ HB1.out]; rfl)
        have c4 := cell_regrown (show wr.cell? ⟨w.heap.size, 4, none⟩ = some (.string ut) by rw [cell_of_row _ _ _ _ _ _ HB1.out]; rfl)
        have c5 := cell_regrown (show wr.cell? ⟨w.heap.size, 5, none⟩ = some (.string ui) by rw [cell_of_row _ _ _ _ _ _ HB1.out]; rfl)
        have c6 := cell_regrown (show wr.cell? ⟨w.heap.size, 6, none⟩ = some (.slice A items.length cap) by rw [cell_of_row _ _ _ _ _ _ HB1.out]; rfl)
        have c7 := cell_regrown (show wr.cell? ⟨w.heap.size, 7, none⟩ = some (.slice A2 names.length cap2) by rw [cell_of_row _ _ _ _ _ _ HB1.out]; rfl)
        have d0 := cell_regrown (show wr.cell? ⟨w.heap.size + 1, 0, none⟩ = some (.int .i64 6) by rw [cell_of_row _ _ _ _ _ _ HB2.out]; rfl)
        have d1 := cell_regrown (show wr.cell? ⟨w.heap.size + 1, 1, none⟩ = some (.bool bo') by rw [cell_of_row _ _ _ _ _ _ HB2.out]; rfl)
        have d2 := cell_regrown (show wr.cell? ⟨w.heap.size + 1, 2, none⟩ = some (.int .i64 i') by rw [cell_of_row _ _ _ _ _ _ HB2.out]; rfl)
        have d3 := cell_regrown (show wr.cell? ⟨w.heap.size + 1, 3, none⟩ = some (.string t') by rw [cell_of_row _ _ _ _ _ _ HB2.out]; rfl)
        have d4 := cell_regrown (show wr.cell? ⟨w.heap.size + 1, 4, none⟩ = some (.string ut') by rw [cell_of_row _ _ _ _ _ _ HB2.out]; rfl)
        have d5 := cell_regrown (show wr.cell? ⟨w.heap.size + 1, 5, none⟩ = some (.string ui') by rw [cell_of_row _ _ _ _ _ _ HB2.out]; rfl)
        have d6 := cell_regrown (show wr.cell? ⟨w.heap.size + 1, 6, none⟩ = some (.slice B items'.length bcap) by rw [cell_of_row _ _ _ _ _ _ HB2.out]; rfl)
        have d7 := cell_regrown (show wr.cell? ⟨w.heap.size + 1, 7, none⟩ = some (.slice B2 names'.length bcap2) by rw [cell_of_row _ _ _ _ _ _ HB2.out]; rfl)
        have q2 : ∀ d os, Calls Try.prog 44 #[.slice A (min items.length names.length) cap, .slice B (min items'.length names'.length) bcap] (Sort.grow (redrawn wr d) os) fun e w'' => e = .returned (.int .i64 (lexL Val.ord (items.take names.length) (items'.take names'.length))) ∧ ∃ p : Regrown, w'' = Sort.grow (redrawn wr p.d) p.os := fun d os =>
          Calls.regrown_of (rows_ok S _ _ _ _ _ (fun b hb => Nat.lt_of_lt_of_le (HSr.out b hb) (below_regrown wr d os).size) ((HVa.out.take names.length).alike (Alike.of_ext (HX.out.trans (below_regrown wr d os)) HS.out)) ((HVb.out.take names'.length).alike (Alike.of_ext (HX.out.trans (below_regrown wr d os)) HS.out)) (fun x hx y hy w1 cx cy hs1 hx1 hy1 => HC.out x (List.mem_of_mem_take hx) y (List.mem_of_mem_take hy) w1 cx cy hs1 hx1 hy1))
        have Q2 := Lib.hid q2
        clear q2
        refine region_later (by kernel_rfl) (by kernel_rfl) ?_
        repeat (quiet_step (first | (go_at_call 44; exact Q2.out _ _) | (go_at_call 45; exact later_call (fun w1 _ => namedR_ok _ _ _ _ _ _ _ _ _ _ _ _ w1 (by assumption) (by rw [maxLen_eq]; assumption) (by rw [maxLen_eq]; omega)) _ _)))
        refine wpQuiet_nil ?_
        intro w2 hw2
        have HX2 := Lib.hid hw2
        clear hw2 c0 c1 c2 c3 c4 c5 c6 c7 d0 d1 d2 d3 d4 d5 d6 d7
        go_wp2_with fail
        go_ret
        exact ⟨ret_int (by rw [Hnm.out]; rfl), HX.out.trans HX2.out⟩
      · have e0 : ((names.length : Int) != names'.length) = true := by simp; omega
        have hlt2 : names.length < names'.length := by omega
        clear hne
        go_wp2_with (go_at_call 42; refine (ints_ok _ _ _).mono ?_; rintro e w' ⟨rfl, rfl⟩)
        go_ret
        exact ⟨ret_int (by rw [lexL_end (by omega) Hall.out, cmpI, if_pos (by omega), if_pos (by omega)]; rfl), HX.out⟩

set_option maxRecDepth 100000 in
set_option maxHeartbeats 1600000 in
theorem orderR_ok (n : Nat) : ∀ (a b : Val) (S : Nat → Prop) (w : World) (ca cb : List Value), SizeOf.sizeOf a ≤ n → (∀ b, S b → b < w.heap.size) → Val.At S w a ca → Val.At S w b cb →
    Calls Try.prog 21 #[.agg ca.toArray, .agg cb.toArray] w fun en w' => en = .returned (.int .i64 (a.ord b)) ∧ Ext w w' := by
  induction n with
  | zero => intro a; cases a; simp
  | succ n ih =>
    intro a b S w ca cb hn hS ha hb
    have Ha := Lib.hid ha
    have Hb := Lib.hid hb
    have HS := Lib.hid hS
    have Hn := Lib.hid hn
    have IH := Lib.hid ih
    have Hd := Lib.hid (Val.ord_def a b)
    cases a with
    | mk k bo i t ut ui items names =>
    cases b with
    | mk k' bo' i' t' ut' ui' items' names' =>
    unfold Val.At at ha hb
    obtain ⟨A, cap, nv, rfl, ⟨_, _, hat, haut, haui⟩, ⟨ha1, ha2, ha3⟩, hai, A2, cap2, rfl, ha4, ha5, ha6, ha7, han⟩ := ha
    obtain ⟨B, bcap, nv, rfl, ⟨_, _, hbt, hbut, hbui⟩, ⟨hb1, hb2, hb3⟩, hbi, B2, bcap2, rfl, hb4, hb5, hb6, hb7, hbn⟩ := hb
    rw [LIM_eq] at ha1 hb1 ha4 hb4
    rw [maxLen_eq] at ha3 hb3 ha6 hb6
    have HT := Lib.hid (And.intro hat (And.intro haut haui))
    have HT' := Lib.hid (And.intro hbt (And.intro hbut hbui))
    clear hai hbi han hbn ha7 hb7 hS hn ih hat haut haui hbt hbut hbui
    by_cases hkk : k = k'
    · subst hkk
      by_cases h1 : k = 1
      · subst h1
        cases bo <;> cases bo'
        all_goals
          go_enter Try.func21, Try.ntmps21
          go_wp2_with fail
          go_ret
          exact ⟨ret_int (by rw [Hd.out]; rfl), ((Ext.refl w).alloc _).alloc _⟩
      by_cases h2 : k = 2
      · subst h2
        go_enter Try.func21, Try.ntmps21
        go_wp2_with (go_at_call 42; refine (ints_ok _ _ _).mono ?_; rintro e w' ⟨rfl, rfl⟩)
        go_ret
        exact ⟨ret_int (by rw [Hd.out]; rfl), ((Ext.refl w).alloc _).alloc _⟩
      by_cases h3 : k = 3
      · subst h3
        go_enter Try.func21, Try.ntmps21
        go_wp2_with (go_at_call 43; refine (texts_ok _ _ _ HT.out.1 HT'.out.1).mono ?_; rintro e w' ⟨rfl, hx2⟩; have HX2 := Lib.hid hx2; clear hx2)
        go_ret
        exact ⟨ret_int (by rw [Hd.out]; rfl), (((Ext.refl w).alloc _).alloc _).trans HX2.out⟩
      by_cases h4 : k = 4
      · subst h4
        by_cases hz : cmpS ut ut' = 0
        · have e0 : (cmpS ut ut' != 0) = false := by simp [hz]
          have Hz := Lib.hid hz
          clear hz
          go_enter Try.func21, Try.ntmps21
          go_wp2_with fail
          refine (texts_ok ut ut' _ HT.out.2.1 HT'.out.2.1).mono ?_
          rintro e w' ⟨rfl, hx2⟩
          have c5 : w'.cell? ⟨w.heap.size, 5, none⟩ = some (.string ui) := by rw [hx2.cell (by simp; omega)]; go_simp
          have d5 : w'.cell? ⟨w.heap.size + 1, 5, none⟩ = some (.string ui') := by rw [hx2.cell (by simp)]; go_simp
          have HX2 := Lib.hid hx2
          clear hx2
          go_wp2_with fail
          refine (texts_ok ui ui' _ HT.out.2.2 HT'.out.2.2).mono ?_
          rintro e w3 ⟨rfl, hx3⟩
          have HX3 := Lib.hid hx3
          clear hx3
          go_wp2_with fail
          go_ret
          exact ⟨ret_int (by rw [Hd.out]; show _ = lex2 (cmpS ut ut') (cmpS ui ui'); rw [lex2, if_pos Hz.out]), ((((Ext.refl w).alloc _).alloc _).trans HX2.out).trans HX3.out⟩
        · have e0 : (cmpS ut ut' != 0) = true := by simp [hz]
          have Hz := Lib.hid hz
          clear hz
          go_enter Try.func21, Try.ntmps21
          go_wp2_with fail
          refine (texts_ok ut ut' _ HT.out.2.1 HT'.out.2.1).mono ?_
          rintro e w' ⟨rfl, hx2⟩
          have HX2 := Lib.hid hx2
          clear hx2
          go_wp2_with fail
          go_ret
          exact ⟨ret_int (by rw [Hd.out]; show _ = lex2 (cmpS ut ut') (cmpS ui ui'); rw [lex2, if_neg Hz.out]), (((Ext.refl w).alloc _).alloc _).trans HX2.out⟩
      by_cases h5 : k = 5
      · subst h5
        go_enter Try.func21, Try.ntmps21
        go_wp2_with (go_at_call 44; refine (rows_ok S items items' _ _ _ (fun b hb => Nat.lt_of_lt_of_le (HS.out b hb) (((Ext.refl w).alloc _).alloc _).size) (Ha.out.vals.alike (Alike.of_ext (((Ext.refl w).alloc _).alloc _) HS.out)) (Hb.out.vals.alike (Alike.of_ext (((Ext.refl w).alloc _).alloc _) HS.out)) (fun x hx y _ w1 cx cy hs1 hx1 hy1 => IH.out x y S w1 cx cy (by have := Hn.out; have := List.sizeOf_lt_of_mem hx; simp at *; omega) hs1 hx1 hy1)).mono ?_; rintro e w' ⟨rfl, hx2⟩; have HX2 := Lib.hid hx2; clear hx2)
        go_ret
        exact ⟨ret_int (by rw [Hd.out]; rfl), (((Ext.refl w).alloc _).alloc _).trans HX2.out⟩
      by_cases h6 : k = 6
      · subst h6
        refine (orderR6_ok bo bo' i i' t t' ut ut' ui ui' items items' names names' S w A A2 B B2 cap cap2 bcap bcap2 HS.out Ha.out Hb.out (fun x hx y _ w1 cx cy hs1 hx1 hy1 => IH.out x y S w1 cx cy (by have := Hn.out; have := List.sizeOf_lt_of_mem hx; simp at *; omega) hs1 hx1 hy1)).mono ?_
        rintro e w' ⟨rfl, hx⟩
        exact ⟨ret_int (by rw [Hd.out]; rfl), hx⟩
      have e1 : (k == 1) = false := by simpa using h1
      have e2 : (k == 2) = false := by simpa using h2
      have e3 : (k == 3) = false := by simpa using h3
      have e4 : (k == 4) = false := by simpa using h4
      have e5 : (k == 5) = false := by simpa using h5
      have e6 : (k == 6) = false := by simpa using h6
      have HK := Lib.hid (And.intro h1 (And.intro h2 (And.intro h3 (And.intro h4 (And.intro h5 h6)))))
      clear h1 h2 h3 h4 h5 h6
      go_enter Try.func21, Try.ntmps21
      go_wp2_with fail
      go_ret
      obtain ⟨h1, h2, h3, h4, h5, h6⟩ := HK.out
      exact ⟨ret_int (by rw [Hd.out]; simp [Val.kind, h1, h2, h3, h4, h5, h6]), ((Ext.refl w).alloc _).alloc _⟩
    · have e0 : (k != k') = true := by simpa using hkk
      have Hk := Lib.hid hkk
      clear hkk
      go_enter Try.func21, Try.ntmps21
      go_wp2_with (go_at_call 42; refine (ints_ok _ _ _).mono ?_; rintro e w' ⟨rfl, rfl⟩)
      go_ret
      exact ⟨ret_int (by rw [Hd.out]; simp [Val.kind, Hk.out]), ((Ext.refl w).alloc _).alloc _⟩

end Go.Proofs.Ytpkgkabcikmopaa
