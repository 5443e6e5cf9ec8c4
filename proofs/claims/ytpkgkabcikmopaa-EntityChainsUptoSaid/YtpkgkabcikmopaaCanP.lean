/-
  What the program's canon and Canon, and the reference's Canon, come to: the same plain function. The conditions: none beyond each contract's own.
-/
import Derived.Test.YtpkgkabcikmopaaFacts
import Derived.Test.YtpkgkabcikmopaaRecord
import Derived.Test.YtpkgkabcikmopaaCanR
import Derived.Test.YtpkgkabcikmopaaCanR6
namespace Go.Proofs.Ytpkgkabcikmopaa
open Go.RowKit

theorem Val.plain_at (S : Nat → Prop) (w : World) (k : Int) (bo : Bool) (n : Int) (t ut ui : ByteArray) (hk : I64 k) (hn : I64 n) (h1 : t.size ≤ maxLen) (h2 : ut.size ≤ maxLen) (h3 : ui.size ≤ maxLen) :
    Val.At S w (.mk k bo n t ut ui [] []) [.int .i64 k, .bool bo, .int .i64 n, .string t, .string ut, .string ui, .slice none 0 0, .slice none 0 0] := by
  unfold Val.At
  exact ⟨none, 0, _, rfl, ⟨hk, hn, h1, h2, h3⟩, ⟨by simp [LIM], by simp, by simp⟩, by simp, none, 0, rfl, by simp [LIM], by simp, by simp, by simp, by simp⟩

theorem Val.set_at {S : Nat → Prop} {w : World} {l : List Val} {v : Value} (h : ValsAt S w l v) : Val.At S w (.mk 5 false 0 empty empty empty l []) [.int .i64 5, .bool false, .int .i64 0, .string ByteArray.empty, .string ByteArray.empty, .string ByteArray.empty, v, .slice none 0 0] := by
  obtain ⟨A, cap, rfl, h3, h4⟩ := h
  have h0 : empty.size ≤ maxLen := by rw [maxLen_eq]; decide
  unfold Val.At
  exact ⟨A, cap, _, rfl, ⟨⟨by omega, by omega⟩, ⟨by omega, by omega⟩, h0, h0, h0⟩, h3, h4, none, 0, rfl, by simp [LIM], by simp, by simp, by simp, by simp⟩
theorem empty_le : ByteArray.empty.size ≤ maxLen := by rw [maxLen_eq]; decide

set_option maxRecDepth 100000 in
set_option maxHeartbeats 1600000 in
/-- the kinds without items -/
theorem canP_plain (k : Int) (bo : Bool) (i : Int) (t ut ui : ByteArray) (A A2 : Option Addr) (l c l2 c2 : Nat) (items : List Val) (names : List ByteArray) (w : World) (h5 : k ≠ 5) (h6 : k ≠ 6) (hi : I64 i) (ht : t.size ≤ maxLen) (hut : ut.size ≤ maxLen) (hui : ui.size ≤ maxLen) :
    Calls Try.prog 39 #[.agg #[.int .i64 k, .bool bo, .int .i64 i, .string t, .string ut, .string ui, .slice A l c, .slice A2 l2 c2]] w
      (ValErr (Val.mk k bo i t ut ui items names).can.1 (Val.mk k bo i t ut ui items names).can.2 w) := by
  have hz : I64 0 := by constructor <;> omega
  have hx : Ext w ((w.alloc (.cells #[.int .i64 k, .bool bo, .int .i64 i, .string t, .string ut, .string ui, .slice A l c, .slice A2 l2 c2] 27))) := (Ext.refl w).alloc _
  have HX := Lib.hid hx
  have HI := Lib.hid hi
  have HZ := Lib.hid hz
  have HT := Lib.hid ht
  have HUt := Lib.hid hut
  have HUi := Lib.hid hui
  have hd : (Val.mk k bo i t ut ui items names).can = if k = 1 then (.mk 1 bo 0 empty empty empty [] [], 0) else if k = 2 then (.mk 2 false i empty empty empty [] [], 0) else if k = 3 then (.mk 3 false 0 t empty empty [] [], 0) else if k = 4 then (.mk 4 false 0 empty ut ui [] [], 0) else (.zero, 1) := by
    simp [Val.can, h5, h6]
  have HD := Lib.hid hd
  generalize (Val.mk k bo i t ut ui items names).can = res at *
  clear hx hi ht hut hui hd hz
  by_cases h1 : k = 1
  · have HR : Hid (res = (.mk 1 bo 0 empty empty empty [] [], 0)) := Lib.hid (by rw [HD.out, if_pos h1])
    subst h1
    clear h5 h6
    go_enter Try.func39, Try.ntmps39
    go_wp2
    rw [HR.out]
    exact bodyPost_ret (v := .tuple #[.agg #[.int .i64 1, .bool bo, .int .i64 0, .string ByteArray.empty, .string ByteArray.empty, .string ByteArray.empty, .slice none 0 0, .slice none 0 0], .int .i64 0]) (results_cell (cs := [.int .i64 1, .bool bo, .int .i64 0, .string ByteArray.empty, .string ByteArray.empty, .string ByteArray.empty, .slice none 0 0, .slice none 0 0]) Try.results39 rfl Try.agg27 Try.size27 rfl (cellsAt_new _ _ (by simp))) rfl ⟨_, rfl, Val.plain_at _ _ _ _ _ _ _ _ (by constructor <;> omega) HZ.out empty_le empty_le empty_le, HX.out.alloc _⟩
  by_cases h2 : k = 2
  · have HR : Hid (res = (.mk 2 false i empty empty empty [] [], 0)) := Lib.hid (by rw [HD.out, if_neg h1, if_pos h2])
    subst h2
    clear h5 h6 h1
    go_enter Try.func39, Try.ntmps39
    go_wp2
    rw [HR.out]
    exact bodyPost_ret (v := .tuple #[.agg #[.int .i64 2, .bool false, .int .i64 i, .string ByteArray.empty, .string ByteArray.empty, .string ByteArray.empty, .slice none 0 0, .slice none 0 0], .int .i64 0]) (results_cell (cs := [.int .i64 2, .bool false, .int .i64 i, .string ByteArray.empty, .string ByteArray.empty, .string ByteArray.empty, .slice none 0 0, .slice none 0 0]) Try.results39 rfl Try.agg27 Try.size27 rfl (cellsAt_new _ _ (by simp))) rfl ⟨_, rfl, Val.plain_at _ _ _ _ _ _ _ _ (by constructor <;> omega) HI.out empty_le empty_le empty_le, HX.out.alloc _⟩
  by_cases h3 : k = 3
  · have HR : Hid (res = (.mk 3 false 0 t empty empty [] [], 0)) := Lib.hid (by rw [HD.out, if_neg h1, if_neg h2, if_pos h3])
    subst h3
    clear h5 h6 h1 h2
    go_enter Try.func39, Try.ntmps39
    go_wp2
    rw [HR.out]
    exact bodyPost_ret (v := .tuple #[.agg #[.int .i64 3, .bool false, .int .i64 0, .string t, .string ByteArray.empty, .string ByteArray.empty, .slice none 0 0, .slice none 0 0], .int .i64 0]) (results_cell (cs := [.int .i64 3, .bool false, .int .i64 0, .string t, .string ByteArray.empty, .string ByteArray.empty, .slice none 0 0, .slice none 0 0]) Try.results39 rfl Try.agg27 Try.size27 rfl (cellsAt_new _ _ (by simp))) rfl ⟨_, rfl, Val.plain_at _ _ _ _ _ _ _ _ (by constructor <;> omega) HZ.out HT.out empty_le empty_le, HX.out.alloc _⟩
  by_cases h4 : k = 4
  · have HR : Hid (res = (.mk 4 false 0 empty ut ui [] [], 0)) := Lib.hid (by rw [HD.out, if_neg h1, if_neg h2, if_neg h3, if_pos h4])
    subst h4
    clear h5 h6 h1 h2 h3
    go_enter Try.func39, Try.ntmps39
    go_wp2
    rw [HR.out]
    exact bodyPost_ret (v := .tuple #[.agg #[.int .i64 4, .bool false, .int .i64 0, .string ByteArray.empty, .string ut, .string ui, .slice none 0 0, .slice none 0 0], .int .i64 0]) (results_cell (cs := [.int .i64 4, .bool false, .int .i64 0, .string ByteArray.empty, .string ut, .string ui, .slice none 0 0, .slice none 0 0]) Try.results39 rfl Try.agg27 Try.size27 rfl (cellsAt_new _ _ (by simp))) rfl ⟨_, rfl, Val.plain_at _ _ _ _ _ _ _ _ (by constructor <;> omega) HZ.out empty_le HUt.out HUi.out, HX.out.alloc _⟩
  have HR : Hid (res = (.zero, 1)) := Lib.hid (by rw [HD.out, if_neg h1, if_neg h2, if_neg h3, if_neg h4])
  have e1 : (k == 1) = false := by simpa using h1
  have e2 : (k == 2) = false := by simpa using h2
  have e3 : (k == 3) = false := by simpa using h3
  have e4 : (k == 4) = false := by simpa using h4
  have e5 : (k == 5) = false := by simpa using h5
  have e6 : (k == 6) = false := by simpa using h6
  clear h1 h2 h3 h4 h5 h6
  go_enter Try.func39, Try.ntmps39
  go_wp2
  rw [HR.out]
  exact bodyPost_ret (v := .tuple #[.agg zeroCells.toArray, .int .i64 1]) (results_cell Try.results39 rfl Try.agg27 Try.size27 rfl (cellsAt_new _ _ (by simp))) rfl ⟨zeroCells, rfl, Val.zero_at _ _, HX.out.alloc _⟩

theorem ext_of_below {base : Nat} {w a b : World} (h : Ext w a) (hb : w.heap.size ≤ base) (k : Below base a b) (hd : a.drawn ≤ b.drawn) : Ext w b := ⟨h.toBelow.trans (Below.mono k hb), Nat.le_trans h.drawn hd⟩
theorem cans_le {l : List Val} (h : (Val.cans l).2 = 0) (h1 : ¬ 4096 < l.length) : Val.itemsOf l = ((Val.cans l).1, 0) := by unfold Val.itemsOf; rw [if_neg (by simp [h]), if_neg h1]
theorem itemsOf_bad {l : List Val} (h : (Val.itemsOf l).2 ≠ 0) : ((Val.cans l).2 ≠ 0 ∧ (Val.itemsOf l).2 = (Val.cans l).2) ∨ ((Val.cans l).2 = 0 ∧ 4096 < l.length ∧ (Val.itemsOf l).2 = 12) := by
  unfold Val.itemsOf at h ⊢
  by_cases h1 : (Val.cans l).2 ≠ 0
  · rw [if_pos h1]; exact .inl ⟨h1, rfl⟩
  · rw [if_neg h1] at h ⊢
    by_cases h2 : 4096 < l.length
    · rw [if_pos h2]; exact .inr ⟨by simpa using h1, h2, rfl⟩
    · rw [if_neg h2] at h; exact absurd rfl h
theorem itemsOf_good {l : List Val} (h : (Val.itemsOf l).2 = 0) : (Val.cans l).2 = 0 ∧ ¬ 4096 < l.length ∧ (Val.itemsOf l).1 = (Val.cans l).1 := by
  unfold Val.itemsOf at h ⊢
  by_cases h1 : (Val.cans l).2 ≠ 0
  · rw [if_pos h1] at h; exact absurd h h1
  · rw [if_neg h1] at h ⊢
    by_cases h2 : 4096 < l.length
    · rw [if_pos h2] at h; cases h
    · rw [if_neg h2]; exact ⟨by simpa using h1, h2, rfl⟩

set_option maxRecDepth 100000 in
set_option maxHeartbeats 1600000 in
/-- a set -/
theorem canP5_ok (bo : Bool) (i : Int) (t ut ui : ByteArray) (items : List Val) (names : List ByteArray) (S : Nat → Prop) (w : World) (A A2 : Option Addr) (cap cap2 : Nat)
    (hS : ∀ b, S b → b < w.heap.size) (ha : Val.At S w (.mk 5 bo i t ut ui items names) [.int .i64 5, .bool bo, .int .i64 i, .string t, .string ut, .string ui, .slice A items.length cap, .slice A2 names.length cap2])
    (hc : ∀ x ∈ items, ∀ (w1 : World) (cx : List Value), (∀ b, S b → b < w1.heap.size) → Val.At S w1 x cx → Calls Try.prog 39 #[.agg cx.toArray] w1 (ValErr x.can.1 x.can.2 w1)) :
    Calls Try.prog 39 #[.agg #[.int .i64 5, .bool bo, .int .i64 i, .string t, .string ut, .string ui, .slice A items.length cap, .slice A2 names.length cap2]] w
      (ValErr (Val.mk 5 bo i t ut ui items names).can.1 (Val.mk 5 bo i t ut ui items names).can.2 w) := by
  have hva := ha.vals
  have HS := Lib.hid hS
  have HC := Lib.hid hc
  have HV := Lib.hid hva
  have HD := Lib.hid (Val.can5 bo i t ut ui items names)
  generalize (Val.mk 5 bo i t ut ui items names).can = res at *
  clear hS hc hva ha
  go_enter Try.func39, Try.ntmps39
  go_wp2_with fail
  generalize hW0 : (w.alloc (.cells #[.int .i64 5, .bool bo, .int .i64 i, .string t, .string ut, .string ui, .slice A items.length cap, .slice A2 names.length cap2] 27)).alloc (.cells #[.int .i64 0, .bool false, .int .i64 0, .string ⟨#[]⟩, .string ⟨#[]⟩, .string ⟨#[]⟩, .slice none 0 0, .slice none 0 0] 27) = W0
  have HW : Hid (Ext w W0) := Lib.hid (by rw [← hW0]; exact ((Ext.refl w).alloc _).alloc _)
  have HB1 : Hid (W0.heap[w.heap.size + 1]? = some (.cells zeroCells.toArray 27 (0, 0))) := Lib.hid (by rw [← hW0]; exact heap_alloc_at (by simp) _)
  have HS0 : Hid (W0.heap.size = w.heap.size + 2) := Lib.hid (by rw [← hW0]; simp)
  have HSW : Hid (∀ b, S b → b < W0.heap.size) := Lib.hid fun b hb => Nat.lt_of_lt_of_le (HS.out b hb) HW.out.size
  clear hW0
  refine (items_ok S items _ W0 HSW.out (HV.out.alike (Alike.of_ext HW.out HS.out)) HC.out).mono ?_
  rintro e w1 ⟨v1, rfl, ⟨xs, hown, hflat⟩, hx1⟩
  obtain ⟨A1, cap1, rfl⟩ := own_shape hown
  have HX1 := Lib.hid hx1
  have Ho := Lib.hid hown
  have Hf := Lib.hid hflat
  have hcell := (hx1.block _ (Blk_lt HB1.out)).trans HB1.out
  have HB1' := Lib.hid hcell
  clear hx1 hown hflat hcell
  by_cases he : (Val.itemsOf items).2 = 0
  · have e0 : ((Val.itemsOf items).2 != 0) = false := by simpa using he
    obtain ⟨hc0, hl0, hit⟩ := itemsOf_good he
    have hlen := Val.cans_length hc0
    have hr : res = (.mk 5 false 0 empty empty empty (sortU Val.ord (Val.cans items).1) [], 0) := by rw [HD.out]; simp [hc0, hl0]
    have HR := Lib.hid hr
    have hIs : ∀ x ∈ (Val.itemsOf items).1, x.Is := fun x hx => by
      rw [hit] at hx
      obtain ⟨y, hy, e⟩ := Val.cans_mem hc0 x hx
      have := Val.can_is (v := y) (by rw [e])
      rwa [e] at this
    have HIs := Lib.hid hIs
    have hll : (Val.itemsOf items).1.length ≤ 4096 := by rw [hit, hlen]; omega
    have Hll := Lib.hid hll
    have Hit := Lib.hid hit
    clear hc0 hl0 hit hlen hr he hIs hll
    generalize (Val.itemsOf items).1 = l1 at *
    generalize (Val.itemsOf items).2 = er at *
    go_wp2_with fail
    refine (sortV_ok W0.heap.size w1 _ l1 xs Ho.out Hf.out (by have := Hll.out; rw [LIM_eq]; omega)).mono ?_
    rintro e w2 ⟨rfl, l2, xs2, hperm, hpw, hown2, hflat2, hbel, hdr⟩
    have Hp := Lib.hid hperm
    have Hpw := Lib.hid hpw
    have hl2 := hperm.length_eq
    rw [hl2] at hown2
    have Ho2 := Lib.hid hown2
    have Hf2 := Lib.hid hflat2
    have HX2 : Hid (Ext W0 w2) := Lib.hid (ext_of_below HX1.out (Nat.le_refl _) hbel hdr)
    have Hl2 := Lib.hid hl2
    clear hperm hpw hown2 hflat2 hbel hdr hl2
    go_wp2_with fail
    refine (compactV_ok W0.heap.size w2 _ l2 xs2 (by rw [Hl2.out]; exact Ho2.out) Hf2.out (by rw [Hl2.out]; have := Hll.out; rw [LIM_eq]; omega)).mono ?_
    rintro e w3 ⟨v3, rfl, xs3, hown3, hflat3, hbel, hdr⟩
    have hx3 : Ext W0 w3 := ext_of_below HX2.out (Nat.le_refl _) hbel hdr
    have hde : dedup Val.ord l2 = sortU Val.ord l1 := dedup_sorted Val.goodAt (P := Val.Is) (fun x y hx hy h0 => Val.eq_ord hx hy h0) HIs.out Hp.out Hpw.out
    rw [hde] at hown3 hflat3
    obtain ⟨A3, cap3, rfl⟩ := own_shape hown3
    have hv3 := own_vals (S' := Fresh W0.heap.size w3) hown3 hflat3 (by have := sortV_len l1; have := Hll.out; rw [LIM_eq]; omega) (fun b hb => ⟨hb.1, hb.2.1⟩) (fun b hb => hown3.lt b hb)
    have HV3 := Lib.hid hv3
    have HX3 := Lib.hid hx3
    have hcell := (hx3.block _ (Blk_lt HB1.out)).trans HB1.out
    have HCl := Lib.hid hcell
    clear hown3 hflat3 hbel hdr hx3 hde hv3 hcell
    go_wp2_with (refine wpList_store_cells rfl 27 _ _ rfl (w.heap.size + 1) 0 rfl [.int .i64 5, .bool false, .int .i64 0, .string ByteArray.empty, .string ByteArray.empty, .string ByteArray.empty, .slice A3 (sortU Val.ord l1).length cap3, .slice none 0 0] rfl Try.size27 rfl 27 zeroCells.toArray HCl.out (by simp [zeroCells]) (by intro u hu; simp at hu; rcases hu with rfl | rfl | rfl | rfl | rfl | rfl <;> rfl) ?_)
    rw [HR.out, ← Hit.out]
    refine bodyPost_ret (v := .tuple #[.agg #[.int .i64 5, .bool false, .int .i64 0, .string ByteArray.empty, .string ByteArray.empty, .string ByteArray.empty, .slice A3 (sortU Val.ord l1).length cap3, .slice none 0 0], .int .i64 0]) (results_cell Try.results39 rfl Try.agg27 Try.size27 rfl (cellsAt_setRow HCl.out (by simp [zeroCells]))) rfl ⟨[.int .i64 5, .bool false, .int .i64 0, .string ByteArray.empty, .string ByteArray.empty, .string ByteArray.empty, .slice A3 (sortU Val.ord l1).length cap3, .slice none 0 0], rfl, ?_, (HW.out.trans HX3.out).setRow (by omega) _⟩
    refine ((Val.set_at HV3.out).alike (w' := w3.setRow (w.heap.size + 1) _) (fun b hb => (GrownBy.setRow w3 (w.heap.size + 1) _).block b hb.2 (fun e => by injection e with e; have := hb.1; have := HS0.out; omega))).mono fun b hb => ⟨by have := hb.1; have := HS0.out; omega, by simpa [World.setRow] using hb.2⟩
  · have e0 : ((Val.itemsOf items).2 != 0) = true := by simpa using he
    have hr : res = (.zero, (Val.itemsOf items).2) := by
      rw [HD.out]
      rcases itemsOf_bad he with ⟨h1, h2⟩ | ⟨h1, h2, h3⟩
      · rw [if_pos h1, h2]
      · rw [if_neg (by simp [h1]), if_pos h2, h3]
    have HR := Lib.hid hr
    clear hr he
    generalize (Val.itemsOf items).1 = l1 at *
    generalize (Val.itemsOf items).2 = er at *
    go_wp2_with (refine wpList_store_cells rfl 27 _ _ rfl (w.heap.size + 1) 0 rfl zeroCells rfl Try.size27 rfl 27 zeroCells.toArray HB1'.out (by simp [zeroCells]) zero_one ?_)
    rw [HR.out]
    exact bodyPost_ret (v := .tuple #[.agg zeroCells.toArray, .int .i64 er]) (results_cell Try.results39 rfl Try.agg27 Try.size27 rfl (cellsAt_setRow HB1'.out (by simp [zeroCells]))) rfl ⟨zeroCells, rfl, Val.zero_at _ _, (HW.out.trans HX1.out).setRow (by omega) _⟩

set_option maxRecDepth 100000 in
set_option maxHeartbeats 1600000 in
/-- a record -/
theorem canP6_ok (bo : Bool) (i : Int) (t ut ui : ByteArray) (items : List Val) (names : List ByteArray) (S : Nat → Prop) (w : World) (A A2 : Option Addr) (cap cap2 : Nat)
    (hS : ∀ b, S b → b < w.heap.size) (ha : Val.At S w (.mk 6 bo i t ut ui items names) [.int .i64 6, .bool bo, .int .i64 i, .string t, .string ut, .string ui, .slice A items.length cap, .slice A2 names.length cap2])
    (hc : ∀ x ∈ items, ∀ (w1 : World) (cx : List Value), (∀ b, S b → b < w1.heap.size) → Val.At S w1 x cx → Calls Try.prog 39 #[.agg cx.toArray] w1 (ValErr x.can.1 x.can.2 w1)) :
    Calls Try.prog 39 #[.agg #[.int .i64 6, .bool bo, .int .i64 i, .string t, .string ut, .string ui, .slice A items.length cap, .slice A2 names.length cap2]] w
      (ValErr (Val.mk 6 bo i t ut ui items names).can.1 (Val.mk 6 bo i t ut ui items names).can.2 w) := by
  have hva := ha.vals
  have hsa := ha.strs
  have HS := Lib.hid hS
  have HC := Lib.hid hc
  have HV := Lib.hid hva
  have HN := Lib.hid hsa
  have HD := Lib.hid (Val.can6 bo i t ut ui items names)
  have hl1 : items.length ≤ 1073741824 := by obtain ⟨_, _, _, ⟨h, _⟩, _⟩ := hva; rwa [LIM_eq] at h
  have hl2 : names.length ≤ 1073741824 := by obtain ⟨_, _, _, h, _⟩ := hsa; rwa [LIM_eq] at h
  generalize (Val.mk 6 bo i t ut ui items names).can = res at *
  clear hS hc hva ha hsa
  by_cases hnl : names.length = items.length
  · have t0 : ((names.length : Int) != items.length) = false := by simp; omega
    have HNL := Lib.hid hnl
    clear hnl
    go_enter Try.func39, Try.ntmps39
    go_wp2_with fail
    clear t0
    generalize hW0 : (w.alloc (.cells #[.int .i64 6, .bool bo, .int .i64 i, .string t, .string ut, .string ui, .slice A items.length cap, .slice A2 names.length cap2] 27)).alloc (.cells #[.int .i64 0, .bool false, .int .i64 0, .string ⟨#[]⟩, .string ⟨#[]⟩, .string ⟨#[]⟩, .slice none 0 0, .slice none 0 0] 27) = W0
    have HW : Hid (Ext w W0) := Lib.hid (by rw [← hW0]; exact ((Ext.refl w).alloc _).alloc _)
    have HB0 : Hid (W0.heap[w.heap.size]? = some (.cells #[.int .i64 6, .bool bo, .int .i64 i, .string t, .string ut, .string ui, .slice A items.length cap, .slice A2 names.length cap2] 27 (0, 0))) := Lib.hid (by rw [← hW0, Below.heap_alloc _ _ _ (by simp)]; exact heap_alloc_at rfl _)
    have HB1 : Hid (W0.heap[w.heap.size + 1]? = some (.cells zeroCells.toArray 27 (0, 0))) := Lib.hid (by rw [← hW0]; exact heap_alloc_at (by simp) _)
    have HS0 : Hid (W0.heap.size = w.heap.size + 2) := Lib.hid (by rw [← hW0]; simp)
    have HSW : Hid (∀ b, S b → b < W0.heap.size) := Lib.hid fun b hb => Nat.lt_of_lt_of_le (HS.out b hb) HW.out.size
    clear hW0
    refine (items_ok S items _ W0 HSW.out (HV.out.alike (Alike.of_ext HW.out HS.out)) HC.out).mono ?_
    rintro e w1 ⟨v1, rfl, ⟨xs, hown, hflat⟩, hx1⟩
    obtain ⟨A1, cap1, rfl⟩ := own_shape hown
    have HX1 := Lib.hid hx1
    have Ho := Lib.hid hown
    have Hf := Lib.hid hflat
    have hcell := (hx1.block _ (Blk_lt HB1.out)).trans HB1.out
    have HB1' := Lib.hid hcell
    have c7 : w1.cell? ⟨w.heap.size, 7, none⟩ = some (.slice A2 names.length cap2) := by rw [cell_of_row _ _ _ _ _ _ ((hx1.block _ (Blk_lt HB0.out)).trans HB0.out)]; rfl
    clear hx1 hown hflat hcell
    by_cases he : (Val.itemsOf items).2 = 0
    · have e0 : ((Val.itemsOf items).2 != 0) = false := by simpa using he
      obtain ⟨hc0, hl0, hit⟩ := itemsOf_good he
      have hlen := Val.cans_length hc0
      have hr : res = record names (Val.itemsOf items).1 := by rw [HD.out, hit]; simp [hc0, hl0, HNL.out]
      have hll : (Val.itemsOf items).1.length = items.length := by rw [hit, hlen]
      have Hll := Lib.hid hll
      have HR := Lib.hid hr
      have Hl0 := Lib.hid hl0
      clear hc0 hl0 hit hlen hr he hll
      generalize (Val.itemsOf items).1 = l1 at *
      generalize (Val.itemsOf items).2 = er at *
      have hv1 := own_vals (S' := Fresh W0.heap.size w1) Ho.out Hf.out (by have := Hll.out; have := Hl0.out; rw [LIM_eq]; omega) (fun b hb => ⟨hb.1, hb.2.1⟩) (fun b hb => Ho.out.lt b hb)
      have HV1 := Lib.hid hv1
      clear hv1
      go_wp2_with fail
      refine (record_ok (Fresh W0.heap.size w1) S names _ l1 _ w1 (fun b hb => hb.2) (fun b hb => Nat.lt_of_lt_of_le (HSW.out b hb) HX1.out.size) (HN.out.alike (Alike.of_ext (HW.out.trans HX1.out) HS.out)) HV1.out (by rw [Hll.out, HNL.out]) (by have := Hll.out; have := Hl0.out; omega)).mono ?_
      rintro e w3 ⟨cs, rfl, hat, hx3⟩
      obtain ⟨k1, b1, n1, t1, ut1, ui1, A3, l3, c3, A4, l4, c4, rfl⟩ := hat.shape
      have HA := Lib.hid hat
      have HX3 := Lib.hid hx3
      have hcell := (hx3.block _ (Blk_lt HB1'.out)).trans HB1'.out
      have HCl := Lib.hid hcell
      have hone := hat.one
      have HOne := Lib.hid hone
      clear hat hx3 hcell hone c7
      generalize hrr : record names l1 = rr at *
      have HRR := Lib.hid hrr
      clear hrr
      go_wp2_with (refine wpList_store_cells rfl 27 _ _ rfl (w.heap.size + 1) 0 rfl [.int .i64 k1, .bool b1, .int .i64 n1, .string t1, .string ut1, .string ui1, .slice A3 l3 c3, .slice A4 l4 c4] rfl Try.size27 rfl 27 zeroCells.toArray HCl.out (by simp [zeroCells]) HOne.out ?_)
      rw [HR.out]
      refine bodyPost_ret (v := .tuple #[.agg #[.int .i64 k1, .bool b1, .int .i64 n1, .string t1, .string ut1, .string ui1, .slice A3 l3 c3, .slice A4 l4 c4], .int .i64 rr.2]) (results_cell Try.results39 rfl Try.agg27 Try.size27 rfl (cellsAt_setRow HCl.out (by simp [zeroCells]))) rfl ⟨[.int .i64 k1, .bool b1, .int .i64 n1, .string t1, .string ut1, .string ui1, .slice A3 l3 c3, .slice A4 l4 c4], rfl, ?_, ((HW.out.trans HX1.out).trans HX3.out).setRow (by omega) _⟩
      have hlow : ∀ b, Fresh W0.heap.size w1 b ∨ Fresh w1.heap.size w3 b → w.heap.size + 2 ≤ b ∧ b < w3.heap.size := fun b hb => by
        have h1 := HS0.out
        have h2 := HX1.out.size
        have h3 := HX3.out.size
        rcases hb with hb | hb
        · exact ⟨by have := hb.1; omega, by have := hb.2; omega⟩
        · exact ⟨by have := hb.1; omega, hb.2⟩
      refine (HA.out.alike (w' := w3.setRow (w.heap.size + 1) _) (fun b hb => (GrownBy.setRow w3 (w.heap.size + 1) _).block b (hlow b hb).2 (fun e => by injection e with e; have := (hlow b hb).1; omega))).mono fun b hb => ⟨by have := (hlow b hb).1; omega, by simpa [World.setRow] using (hlow b hb).2⟩
    · have e0 : ((Val.itemsOf items).2 != 0) = true := by simpa using he
      have hr : res = (.zero, (Val.itemsOf items).2) := by
        rw [HD.out, if_neg (by simp [HNL.out])]
        rcases itemsOf_bad he with ⟨h1, h2⟩ | ⟨h1, h2, h3⟩
        · rw [if_pos h1, h2]
        · rw [if_neg (by simp [h1]), if_pos h2, h3]
      have HR := Lib.hid hr
      clear hr he c7
      generalize (Val.itemsOf items).1 = l1 at *
      generalize (Val.itemsOf items).2 = er at *
      go_wp2_with (refine wpList_store_cells rfl 27 _ _ rfl (w.heap.size + 1) 0 rfl zeroCells rfl Try.size27 rfl 27 zeroCells.toArray HB1'.out (by simp [zeroCells]) zero_one ?_)
      rw [HR.out]
      exact bodyPost_ret (v := .tuple #[.agg zeroCells.toArray, .int .i64 er]) (results_cell Try.results39 rfl Try.agg27 Try.size27 rfl (cellsAt_setRow HB1'.out (by simp [zeroCells]))) rfl ⟨zeroCells, rfl, Val.zero_at _ _, (HW.out.trans HX1.out).setRow (by omega) _⟩
  · have t0 : ((names.length : Int) != items.length) = true := by simp; omega
    have hr : res = (.zero, 1) := by rw [HD.out, if_pos hnl]
    have HR := Lib.hid hr
    clear hnl hr
    go_enter Try.func39, Try.ntmps39
    go_wp2_with fail
    rw [HR.out]
    exact bodyPost_ret (v := .tuple #[.agg zeroCells.toArray, .int .i64 1]) (results_cell Try.results39 rfl Try.agg27 Try.size27 rfl (cellsAt_new _ _ (by simp))) rfl ⟨zeroCells, rfl, Val.zero_at _ _, ((Ext.refl w).alloc _).alloc _⟩

set_option maxHeartbeats 400000 in
theorem canP_ok (n : Nat) : ∀ (v : Val) (S : Nat → Prop) (w : World) (cs : List Value), SizeOf.sizeOf v ≤ n → (∀ b, S b → b < w.heap.size) → Val.At S w v cs →
    Calls Try.prog 39 #[.agg cs.toArray] w (ValErr v.can.1 v.can.2 w) := by
  induction n with
  | zero => intro v; cases v; simp
  | succ n ih =>
    intro v S w cs hn hS ha
    cases v with
    | mk k bo i t ut ui items names =>
    have hA := ha
    unfold Val.At at ha
    obtain ⟨A, cap, nv, rfl, ⟨hk, hi, h1, h2, h3⟩, _, _, A2, cap2, rfl, _⟩ := ha
    have hm : ∀ x ∈ items, ∀ (w1 : World) (cx : List Value), (∀ b, S b → b < w1.heap.size) → Val.At S w1 x cx → Calls Try.prog 39 #[.agg cx.toArray] w1 (ValErr x.can.1 x.can.2 w1) :=
      fun x hx w1 cx hs hx1 => ih x S w1 cx (by have := List.sizeOf_lt_of_mem hx; simp at hn; omega) hs hx1
    by_cases h5 : k = 5
    · subst h5; exact canP5_ok bo i t ut ui items names S w A A2 cap cap2 hS hA hm
    by_cases h6 : k = 6
    · subst h6; exact canP6_ok bo i t ut ui items names S w A A2 cap cap2 hS hA hm
    exact canP_plain k bo i t ut ui A A2 _ cap _ cap2 items names w h5 h6 hi h1 h2 h3
end Go.Proofs.Ytpkgkabcikmopaa
