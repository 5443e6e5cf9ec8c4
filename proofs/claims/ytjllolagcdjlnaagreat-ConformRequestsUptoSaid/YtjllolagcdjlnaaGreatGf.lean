/-
  What the program's canon and Canon, and the reference's Canon, come to: the same plain function. The conditions: none beyond each contract's own.
-/
import Derived.Test.YtjllolagcdjlnaaGreatGc
import Derived.Test.YtjllolagcdjlnaaGreatGe
import Derived.Test.YtjllolagcdjlnaaGreatCanRM
import Derived.Test.YtjllolagcdjlnaaGreatCanR6M
import Derived.Test.YtjllolagcdjlnaaGreatGd
import Derived.Test.YtjllolagcdjlnaaGreatSortPE
import Derived.Test.YtjllolagcdjlnaaGreatGb
namespace Go.Proofs.YtjllolagcdjlnaaGreat
open Go.RowKit

theorem Val.plain_at (S : Nat → Prop) (w : World) (k : Int) (bo : Bool) (n : Int) (t ut ui : ByteArray) (hk : I64 k) (hn : I64 n) (h1 : t.size ≤ maxLen) (h2 : ut.size ≤ maxLen) (h3 : ui.size ≤ maxLen) :
    Val.At S w (.mk k bo n t ut ui [] []) [.int .i64 k, .bool bo, .int .i64 n, .string t, .string ut, .string ui, .slice none 0 0, .slice none 0 0] := by
  unfold Val.At
  exact ⟨none, 0, _, rfl, ⟨hk, hn, h1, h2, h3⟩, ⟨by simp [LIM], by simp, by simp⟩, by simp, none, 0, rfl, by simp [LIM], by simp, by simp, by simp, by simp⟩

theorem Val.set_at {S : Nat → Prop} {w : World} {l : List Val} {v : Value} (h : ValsAt S w l v) : Val.At S w (.mk 5 false 0 empty empty empty l []) [.int .i64 5, .bool false, .int .i64 0, .string ByteArray.empty, .string ByteArray.empty, .string ByteArray.empty, v, .slice none 0 0] := by
  obtain ⟨A, cap, rfl, h3, h4⟩ := h
  have h0 : empty.size ≤ maxLen := by rw [maxLen_eq]; decide
  unfold Val.At
  exact ⟨A, cap, _, rfl, ⟨⟨by omega, by omega⟩, ⟨by omega, by omega⟩, h0, h0, h0⟩, h3, h4, none, 0, rfl, by simp [LIM], by simp, by simp, by simp, by simp⟩
theorem empty_le : ByteArray.empty.size ≤ maxLen := by rw [maxLen_eq]; decide

set_option maxRecDepth 100000 in
set_option maxHeartbeats 1600000 in
/-- the kinds without items -/
theorem canP_plain (k : Int) (bo : Bool) (i : Int) (t ut ui : ByteArray) (A A2 : Option Addr) (l c l2 c2 : Nat) (items : List Val) (names : List ByteArray) (w : World) (h5 : k ≠ 5) (h6 : k ≠ 6) (hi : I64 i) (ht : t.size ≤ maxLen) (hut : ut.size ≤ maxLen) (hui : ui.size ≤ maxLen) :
    Calls Tryz.prog 103 #[.agg #[.int .i64 k, .bool bo, .int .i64 i, .string t, .string ut, .string ui, .slice A l c, .slice A2 l2 c2]] w
      (ValErr (Val.mk k bo i t ut ui items names).can.1 (Val.mk k bo i t ut ui items names).can.2 w) := by
  have hz : I64 0 := by constructor <;> omega
  have hx : Ext w ((w.alloc (.cells #[.int .i64 k, .bool bo, .int .i64 i, .string t, .string ut, .string ui, .slice A l c, .slice A2 l2 c2] 35))) := (Ext.refl w).alloc _
  have HX := Lib.hid hx
  have HI := Lib.hid hi
  have HZ := Lib.hid hz
  have HT := Lib.hid ht
  have HUt := Lib.hid hut
  have HUi := Lib.hid hui
  have hd : (Val.mk k bo i t ut ui items names).can = if k = 1 then (.mk 1 bo 0 empty empty empty [] [], 0) else if k = 2 then (.mk 2 false i empty empty empty [] [], 0) else if k = 3 then (.mk 3 false 0 t empty empty [] [], 0) else if k = 4 then (.mk 4 false 0 empty ut ui [] [], 0) else (.zero, 1) := by
    simp [Val.can, h5, h6]
  have HD := Lib.hid hd
  generalize (Val.mk k bo i t ut ui items names).can = res at *
  clear hx hi ht hut hui hd hz
  by_cases h1 : k = 1
  · have HR : Hid (res = (.mk 1 bo 0 empty empty empty [] [], 0)) := Lib.hid (by rw [HD.out, if_pos h1])
    subst h1
    clear h5 h6
    go_enter Tryz.func103, Tryz.ntmps103
    go_wp2
    rw [HR.out]
    exact bodyPost_ret (v := .tuple #[.agg #[.int .i64 1, .bool bo, .int .i64 0, .string ByteArray.empty, .string ByteArray.empty, .string ByteArray.empty, .slice none 0 0, .slice none 0 0], .int .i64 0]) (results_cell (cs := [.int .i64 1, .bool bo, .int .i64 0, .string ByteArray.empty, .string ByteArray.empty, .string ByteArray.empty, .slice none 0 0, .slice none 0 0]) Tryz.results103 rfl Tryz.agg27 Tryz.size27 rfl (cellsAt_new _ _ (by simp))) rfl ⟨_, rfl, Val.plain_at _ _ _ _ _ _ _ _ (by constructor <;> omega) HZ.out empty_le empty_le empty_le, HX.out.alloc _⟩
  by_cases h2 : k = 2
  · have HR : Hid (res = (.mk 2 false i empty empty empty [] [], 0)) := Lib.hid (by rw [HD.out, if_neg h1, if_pos h2])
    subst h2
    clear h5 h6 h1
    go_enter Tryz.func103, Tryz.ntmps103
    go_wp2
    rw [HR.out]
    exact bodyPost_ret (v := .tuple #[.agg #[.int .i64 2, .bool false, .int .i64 i, .string ByteArray.empty, .string ByteArray.empty, .string ByteArray.empty, .slice none 0 0, .slice none 0 0], .int .i64 0]) (results_cell (cs := [.int .i64 2, .bool false, .int .i64 i, .string ByteArray.empty, .string ByteArray.empty, .string ByteArray.empty, .slice none 0 0, .slice none 0 0]) Tryz.results103 rfl Tryz.agg27 Tryz.size27 rfl (cellsAt_new _ _ (by simp))) rfl ⟨_, rfl, Val.plain_at _ _ _ _ _ _ _ _ (by constructor <;> omega) HI.out empty_le empty_le empty_le, HX.out.alloc _⟩
  by_cases h3 : k = 3
  · have HR : Hid (res = (.mk 3 false 0 t empty empty [] [], 0)) := Lib.hid (by rw [HD.out, if_neg h1, if_neg h2, if_pos h3])
    subst h3
    clear h5 h6 h1 h2
    go_enter Tryz.func103, Tryz.ntmps103
    go_wp2
    rw [HR.out]
    exact bodyPost_ret (v := .tuple #[.agg #[.int .i64 3, .bool false, .int .i64 0, .string t, .string ByteArray.empty, .string ByteArray.empty, .slice none 0 0, .slice none 0 0], .int .i64 0]) (results_cell (cs := [.int .i64 3, .bool false, .int .i64 0, .string t, .string ByteArray.empty, .string ByteArray.empty, .slice none 0 0, .slice none 0 0]) Tryz.results103 rfl Tryz.agg27 Tryz.size27 rfl (cellsAt_new _ _ (by simp))) rfl ⟨_, rfl, Val.plain_at _ _ _ _ _ _ _ _ (by constructor <;> omega) HZ.out HT.out empty_le empty_le, HX.out.alloc _⟩
  by_cases h4 : k = 4
  · have HR : Hid (res = (.mk 4 false 0 empty ut ui [] [], 0)) := Lib.hid (by rw [HD.out, if_neg h1, if_neg h2, if_neg h3, if_pos h4])
    subst h4
    clear h5 h6 h1 h2 h3
    go_enter Tryz.func103, Tryz.ntmps103
    go_wp2
    rw [HR.out]
    exact bodyPost_ret (v := .tuple #[.agg #[.int .i64 4, .bool false, .int .i64 0, .string ByteArray.empty, .string ut, .string ui, .slice none 0 0, .slice none 0 0], .int .i64 0]) (results_cell (cs := [.int .i64 4, .bool false, .int .i64 0, .string ByteArray.empty, .string ut, .string ui, .slice none 0 0, .slice none 0 0]) Tryz.results103 rfl Tryz.agg27 Tryz.size27 rfl (cellsAt_new _ _ (by simp))) rfl ⟨_, rfl, Val.plain_at _ _ _ _ _ _ _ _ (by constructor <;> omega) HZ.out empty_le HUt.out HUi.out, HX.out.alloc _⟩
  have HR : Hid (res = (.zero, 1)) := Lib.hid (by rw [HD.out, if_neg h1, if_neg h2, if_neg h3, if_neg h4])
  have e1 : (k == 1) = false := by simpa using h1
  have e2 : (k == 2) = false := by simpa using h2
  have e3 : (k == 3) = false := by simpa using h3
  have e4 : (k == 4) = false := by simpa using h4
  have e5 : (k == 5) = false := by simpa using h5
  have e6 : (k == 6) = false := by simpa using h6
  clear h1 h2 h3 h4 h5 h6
  go_enter Tryz.func103, Tryz.ntmps103
  go_wp2
  rw [HR.out]
  exact bodyPost_ret (v := .tuple #[.agg zeroCells.toArray, .int .i64 1]) (results_cell Tryz.results103 rfl Tryz.agg27 Tryz.size27 rfl (cellsAt_new _ _ (by simp))) rfl ⟨zeroCells, rfl, Val.zero_at _ _, HX.out.alloc _⟩

theorem ext_of_below {base : Nat} {w a b : World} (h : Ext w a) (hb : w.heap.size ≤ base) (k : Below base a b) (hd : a.drawn ≤ b.drawn) : Ext w b := ⟨h.toBelow.trans (Below.mono k hb), Nat.le_trans h.drawn hd⟩
theorem cans_le {l : List Val} (h : (Val.cans l).2 = 0) (h1 : ¬ 4096 < l.length) : Val.itemsOf l = ((Val.cans l).1, 0) := by unfold Val.itemsOf; rw [if_neg (by simp [h]), if_neg h1]
theorem itemsOf_bad {l : List Val} (h : (Val.itemsOf l).2 ≠ 0) : ((Val.cans l).2 ≠ 0 ∧ (Val.itemsOf l).2 = (Val.cans l).2) ∨ ((Val.cans l).2 = 0 ∧ 4096 < l.length ∧ (Val.itemsOf l).2 = 12) := by
  unfold Val.itemsOf at h ⊢
  by_cases h1 : (Val.cans l).2 ≠ 0
  · rw [if_pos h1]; exact .inl ⟨h1, rfl⟩
  · rw [if_neg h1] at h ⊢
    by_cases h2 : 4096 < l.length
    · rw [if_pos h2]; exact .inr ⟨by simpa using h1, h2, rfl⟩
    · rw [if_neg h2] at h; exact absurd rfl h
theorem itemsOf_good {l : List Val} (h : (Val.itemsOf l).2 = 0) : (Val.cans l).2 = 0 ∧ ¬ 4096 < l.length ∧ (Val.itemsOf l).1 = (Val.cans l).1 := by
  unfold Val.itemsOf at h ⊢
  by_cases h1 : (Val.cans l).2 ≠ 0
  · rw [if_pos h1] at h; exact absurd h h1
  · rw [if_neg h1] at h ⊢
    by_cases h2 : 4096 < l.length
    · rw [if_pos h2] at h; cases h
    · rw [if_neg h2]; exact ⟨by simpa using h1, h2, rfl⟩

set_option maxRecDepth 100000 in
set_option maxHeartbeats 1600000 in
/-- a set -/
theorem canP5_ok (bo : Bool) (i : Int) (t ut ui : ByteArray) (items : List Val) (names : List ByteArray) (S : Nat → Prop) (w : World) (A A2 : Option Addr) (cap cap2 : Nat)
    (hS : ∀ b, S b → b < w.heap.size) (ha : Val.At S w (.mk 5 bo i t ut ui items names) [.int .i64 5, .bool bo, .int .i64 i, .string t, .string ut, .string ui, .slice A items.length cap, .slice A2 names.length cap2])
    (hc : ∀ x ∈ items, ∀ (w1 : World) (cx : List Value), (∀ b, S b → b < w1.heap.size) → Val.At S w1 x cx → Calls Tryz.prog 103 #[.agg cx.toArray] w1 (ValErr x.can.1 x.can.2 w1)) :
    Calls Tryz.prog 103 #[.agg #[.int .i64 5, .bool bo, .int .i64 i, .string t, .string ut, .string ui, .slice A items.length cap, .slice A2 names.length cap2]] w
      (ValErr (Val.mk 5 bo i t ut ui items names).can.1 (Val.mk 5 bo i t ut ui items names).can.2 w) := by
  have hva := ha.vals
  have HS := Lib.hid hS
  have HC := Lib.hid hc
  have HV := Lib.hid hva
  have HD := Lib.hid (Val.can5 bo i t ut ui items names)
  generalize (Val.mk 5 bo i t ut ui items names).can = res at *
  clear hS hc hva ha
  go_enter Tryz.func103, Tryz.ntmps103
  go_wp2_with fail
  generalize hW0 : (w.alloc (.cells #[.int .i64 5, .bool bo, .int .i64 i, .string t, .string ut, .string ui, .slice A items.length cap, .slice A2 names.length cap2] 35)).alloc (.cells #[.int .i64 0, .bool false, .int .i64 0, .string ⟨#[]⟩, .string ⟨#[]⟩, .string ⟨#[]⟩, .slice none 0 0, .slice none 0 0] 35) = W0
  have HW : Hid (Ext w W0) := Lib.hid (by rw [← hW0]; exact ((Ext.refl w).alloc _).alloc _)
  have HB1 : Hid (W0.heap[w.heap.size + 1]? = some (.cells zeroCells.toArray 35 (0, 0))) := Lib.hid (by rw [← hW0]; exact heap_alloc_at (by simp) _)
  have HS0 : Hid (W0.heap.size = w.heap.size + 2) := Lib.hid (by rw [← hW0]; simp)
  have HSW : Hid (∀ b, S b → b < W0.heap.size) := Lib.hid fun b hb => Nat.lt_of_lt_of_le (HS.out b hb) HW.out.size
  clear hW0
  refine (items_ok S items _ W0 HSW.out (HV.out.alike (Alike.of_ext HW.out HS.out)) HC.out).mono ?_
  rintro e w1 ⟨v1, rfl, ⟨xs, hown, hflat⟩, hx1⟩
  obtain ⟨A1, cap1, rfl⟩ := own_shape hown
  have HX1 := Lib.hid hx1
  have Ho := Lib.hid hown
  have Hf := Lib.hid hflat
  have hcell := (hx1.block _ (Blk_lt HB1.out)).trans HB1.out
  have HB1' := Lib.hid hcell
  clear hx1 hown hflat hcell
  by_cases he : (Val.itemsOf items).2 = 0
  · have e0 : ((Val.itemsOf items).2 != 0) = false := by simpa using he
    obtain ⟨hc0, hl0, hit⟩ := itemsOf_good he
    have hlen := Val.cans_length hc0
    have hr : res = (.mk 5 false 0 empty empty empty (sortU Val.ord (Val.cans items).1) [], 0) := by rw [HD.out]; simp [hc0, hl0]
    have HR := Lib.hid hr
    have hIs : ∀ x ∈ (Val.itemsOf items).1, x.Is := fun x hx => by
      rw [hit] at hx
      obtain ⟨y, hy, e⟩ := Val.cans_mem hc0 x hx
      have := Val.can_is (v := y) (by rw [e])
      rwa [e] at this
    have HIs := Lib.hid hIs
    have hll : (Val.itemsOf items).1.length ≤ 4096 := by rw [hit, hlen]; omega
    have Hll := Lib.hid hll
    have Hit := Lib.hid hit
    clear hc0 hl0 hit hlen hr he hIs hll
    generalize (Val.itemsOf items).1 = l1 at *
    generalize (Val.itemsOf items).2 = er at *
    go_wp2_with fail
    refine (sortV_ok W0.heap.size w1 _ l1 xs Ho.out Hf.out (by have := Hll.out; rw [LIM_eq]; omega)).mono ?_
    rintro e w2 ⟨rfl, l2, xs2, hperm, hpw, hown2, hflat2, hbel, hdr⟩
    have Hp := Lib.hid hperm
    have Hpw := Lib.hid hpw
    have hl2 := hperm.length_eq
    rw [hl2] at hown2
    have Ho2 := Lib.hid hown2
    have Hf2 := Lib.hid hflat2
    have HX2 : Hid (Ext W0 w2) := Lib.hid (ext_of_below HX1.out (Nat.le_refl _) hbel hdr)
    have Hl2 := Lib.hid hl2
    clear hperm hpw hown2 hflat2 hbel hdr hl2
    go_wp2_with fail
    refine (compactV_ok W0.heap.size w2 _ l2 xs2 (by rw [Hl2.out]; exact Ho2.out) Hf2.out (by rw [Hl2.out]; have := Hll.out; rw [LIM_eq]; omega)).mono ?_
    rintro e w3 ⟨v3, rfl, xs3, hown3, hflat3, hbel, hdr⟩
    have hx3 : Ext W0 w3 := ext_of_below HX2.out (Nat.le_refl _) hbel hdr
    have hde : dedup Val.ord l2 = sortU Val.ord l1 := dedup_sorted Val.goodAt (P := Val.Is) (fun x y hx hy h0 => Val.eq_ord hx hy h0) HIs.out Hp.out Hpw.out
    rw [hde] at hown3 hflat3
    obtain ⟨A3, cap3, rfl⟩ := own_shape hown3
    have hv3 := own_vals (S' := Fresh W0.heap.size w3) hown3 hflat3 (by have := sortV_len l1; have := Hll.out; rw [LIM_eq]; omega) (fun b hb => ⟨hb.1, hb.2.1⟩) (fun b hb => hown3.lt b hb)
    have HV3 := Lib.hid hv3
    have HX3 := Lib.hid hx3
    have hcell := (hx3.block _ (Blk_lt HB1.out)).trans HB1.out
    have HCl := Lib.hid hcell
    clear hown3 hflat3 hbel hdr hx3 hde hv3 hcell
    go_wp2_with (refine wpList_store_cells rfl 35 _ _ rfl (w.heap.size + 1) 0 rfl [.int .i64 5, .bool false, .int .i64 0, .string ByteArray.empty, .string ByteArray.empty, .string ByteArray.empty, .slice A3 (sortU Val.ord l1).length cap3, .slice none 0 0] rfl Tryz.size27 rfl 35 zeroCells.toArray HCl.out (by simp [zeroCells]) (by intro u hu; simp at hu; rcases hu with rfl | rfl | rfl | rfl | rfl | rfl <;> rfl) ?_)
    rw [HR.out, ← Hit.out]
    refine bodyPost_ret (v := .tuple #[.agg #[.int .i64 5, .bool false, .int .i64 0, .string ByteArray.empty, .string ByteArray.empty, .string ByteArray.empty, .slice A3 (sortU Val.ord l1).length cap3, .slice none 0 0], .int .i64 0]) (results_cell Tryz.results103 rfl Tryz.agg27 Tryz.size27 rfl (cellsAt_setRow HCl.out (by simp [zeroCells]))) rfl ⟨[.int .i64 5, .bool false, .int .i64 0, .string ByteArray.empty, .string ByteArray.empty, .string ByteArray.empty, .slice A3 (sortU Val.ord l1).length cap3, .slice none 0 0], rfl, ?_, (HW.out.trans HX3.out).setRow (by omega) _⟩
    refine ((Val.set_at HV3.out).alike (w' := w3.setRow (w.heap.size + 1) _) (fun b hb => (GrownBy.setRow w3 (w.heap.size + 1) _).block b hb.2 (fun e => by injection e with e; have := hb.1; have := HS0.out; omega))).mono fun b hb => ⟨by have := hb.1; have := HS0.out; omega, by simpa [World.setRow] using hb.2⟩
  · have e0 : ((Val.itemsOf items).2 != 0) = true := by simpa using he
    have hr : res = (.zero, (Val.itemsOf items).2) := by
      rw [HD.out]
      rcases itemsOf_bad he with ⟨h1, h2⟩ | ⟨h1, h2, h3⟩
      · rw [if_pos h1, h2]
      · rw [if_neg (by simp [h1]), if_pos h2, h3]
    have HR := Lib.hid hr
    clear hr he
    generalize (Val.itemsOf items).1 = l1 at *
    generalize (Val.itemsOf items).2 = er at *
    go_wp2_with (refine wpList_store_cells rfl 35 _ _ rfl (w.heap.size + 1) 0 rfl zeroCells rfl Tryz.size27 rfl 35 zeroCells.toArray HB1'.out (by simp [zeroCells]) zero_one ?_)
    rw [HR.out]
    exact bodyPost_ret (v := .tuple #[.agg zeroCells.toArray, .int .i64 er]) (results_cell Tryz.results103 rfl Tryz.agg27 Tryz.size27 rfl (cellsAt_setRow HB1'.out (by simp [zeroCells]))) rfl ⟨zeroCells, rfl, Val.zero_at _ _, (HW.out.trans HX1.out).setRow (by omega) _⟩

set_option maxRecDepth 100000 in
set_option maxHeartbeats 1600000 in
/-- a record -/
theorem canP6_ok (bo : Bool) (i : Int) (t ut ui : ByteArray) (items : List Val) (names : List ByteArray) (S : Nat → Prop) (w : World) (A A2 : Option Addr) (cap cap2 : Nat)
    (hS : ∀ b, S b → b < w.heap.size) (ha : Val.At S w (.mk 6 bo i t ut ui items names) [.int .i64 6, .bool bo, .int .i64 i, .string t, .string ut, .string ui, .slice A items.length cap, .slice A2 names.length cap2])
    (hc : ∀ x ∈ items, ∀ (w1 : World) (cx : List Value), (∀ b, S b → b < w1.heap.size) → Val.At S w1 x cx → Calls Tryz.prog 103 #[.agg cx.toArray] w1 (ValErr x.can.1 x.can.2 w1)) :
    Calls Tryz.prog 103 #[.agg #[.int .i64 6, .bool bo, .int .i64 i, .string t, .string ut, .string ui, .slice A items.length cap, .slice A2 names.length cap2]] w
      (ValErr (Val.mk 6 bo i t ut ui items names).can.1 (Val.mk 6 bo i t ut ui items names).can.2 w) := by
  have hva := ha.vals
  have hsa := ha.strs
  have HS := Lib.hid hS
  have HC := Lib.hid hc
  have HV := Lib.hid hva
  have HN := Lib.hid hsa
  have HD := Lib.hid (Val.can6 bo i t ut ui items names)
  have hl1 : items.length ≤ 1073741824 := by obtain ⟨_, _, _, ⟨h, _⟩, _⟩ := hva; rwa [LIM_eq] at h
  have hl2 : names.length ≤ 1073741824 := by obtain ⟨_, _, _, h, _⟩ := hsa; rwa [LIM_eq] at h
  generalize (Val.mk 6 bo i t ut ui items names).can = res at *
  clear hS hc hva ha hsa
  by_cases hnl : names.length = items.length
  · have t0 : ((names.length : Int) != items.length) = false := by simp; omega
    have HNL := Lib.hid hnl
    clear hnl
    go_enter Tryz.func103, Tryz.ntmps103
    go_wp2_with fail
    clear t0
    generalize hW0 : (w.alloc (.cells #[.int .i64 6, .bool bo, .int .i64 i, .string t, .string ut, .string ui, .slice A items.length cap, .slice A2 names.length cap2] 35)).alloc (.cells #[.int .i64 0, .bool false, .int .i64 0, .string ⟨#[]⟩, .string ⟨#[]⟩, .string ⟨#[]⟩, .slice none 0 0, .slice none 0 0] 35) = W0
    have HW : Hid (Ext w W0) := Lib.hid (by rw [← hW0]; exact ((Ext.refl w).alloc _).alloc _)
    have HB0 : Hid (W0.heap[w.heap.size]? = some (.cells #[.int .i64 6, .bool bo, .int .i64 i, .string t, .string ut, .string ui, .slice A items.length cap, .slice A2 names.length cap2] 35 (0, 0))) := Lib.hid (by rw [← hW0, Below.heap_alloc _ _ _ (by simp)]; exact heap_alloc_at rfl _)
    have HB1 : Hid (W0.heap[w.heap.size + 1]? = some (.cells zeroCells.toArray 35 (0, 0))) := Lib.hid (by rw [← hW0]; exact heap_alloc_at (by simp) _)
    have HS0 : Hid (W0.heap.size = w.heap.size + 2) := Lib.hid (by rw [← hW0]; simp)
    have HSW : Hid (∀ b, S b → b < W0.heap.size) := Lib.hid fun b hb => Nat.lt_of_lt_of_le (HS.out b hb) HW.out.size
    clear hW0
    refine (items_ok S items _ W0 HSW.out (HV.out.alike (Alike.of_ext HW.out HS.out)) HC.out).mono ?_
    rintro e w1 ⟨v1, rfl, ⟨xs, hown, hflat⟩, hx1⟩
    obtain ⟨A1, cap1, rfl⟩ := own_shape hown
    have HX1 := Lib.hid hx1
    have Ho := Lib.hid hown
    have Hf := Lib.hid hflat
    have hcell := (hx1.block _ (Blk_lt HB1.out)).trans HB1.out
    have HB1' := Lib.hid hcell
    have c7 : w1.cell? ⟨w.heap.size, 7, none⟩ = some (.slice A2 names.length cap2) := by rw [cell_of_row _ _ _ _ _ _ ((hx1.block _ (Blk_lt HB0.out)).trans HB0.out)]; rfl
    clear hx1 hown hflat hcell
    by_cases he : (Val.itemsOf items).2 = 0
    · have e0 : ((Val.itemsOf items).2 != 0) = false := by simpa using he
      obtain ⟨hc0, hl0, hit⟩ := itemsOf_good he
      have hlen := Val.cans_length hc0
      have hr : res = record names (Val.itemsOf items).1 := by rw [HD.out, hit]; simp [hc0, hl0, HNL.out]
      have hll : (Val.itemsOf items).1.length = items.length := by rw [hit, hlen]
      have Hll := Lib.hid hll
      have HR := Lib.hid hr
      have Hl0 := Lib.hid hl0
      clear hc0 hl0 hit hlen hr he hll
      generalize (Val.itemsOf items).1 = l1 at *
      generalize (Val.itemsOf items).2 = er at *
      have hv1 := own_vals (S' := Fresh W0.heap.size w1) Ho.out Hf.out (by have := Hll.out; have := Hl0.out; rw [LIM_eq]; omega) (fun b hb => ⟨hb.1, hb.2.1⟩) (fun b hb => Ho.out.lt b hb)
      have HV1 := Lib.hid hv1
      clear hv1
      go_wp2_with fail
      refine (record_ok (Fresh W0.heap.size w1) S names _ l1 _ w1 (fun b hb => hb.2) (fun b hb => Nat.lt_of_lt_of_le (HSW.out b hb) HX1.out.size) (HN.out.alike (Alike.of_ext (HW.out.trans HX1.out) HS.out)) HV1.out (by rw [Hll.out, HNL.out]) (by have := Hll.out; have := Hl0.out; omega)).mono ?_
      rintro e w3 ⟨cs, rfl, hat, hx3⟩
      obtain ⟨k1, b1, n1, t1, ut1, ui1, A3, l3, c3, A4, l4, c4, rfl⟩ := hat.shape
      have HA := Lib.hid hat
      have HX3 := Lib.hid hx3
      have hcell := (hx3.block _ (Blk_lt HB1'.out)).trans HB1'.out
      have HCl := Lib.hid hcell
      have hone := hat.one
      have HOne := Lib.hid hone
      clear hat hx3 hcell hone c7
      generalize hrr : record names l1 = rr at *
      have HRR := Lib.hid hrr
      clear hrr
      go_wp2_with (refine wpList_store_cells rfl 35 _ _ rfl (w.heap.size + 1) 0 rfl [.int .i64 k1, .bool b1, .int .i64 n1, .string t1, .string ut1, .string ui1, .slice A3 l3 c3, .slice A4 l4 c4] rfl Tryz.size27 rfl 35 zeroCells.toArray HCl.out (by simp [zeroCells]) HOne.out ?_)
      rw [HR.out]
      refine bodyPost_ret (v := .tuple #[.agg #[.int .i64 k1, .bool b1, .int .i64 n1, .string t1, .string ut1, .string ui1, .slice A3 l3 c3, .slice A4 l4 c4], .int .i64 rr.2]) (results_cell Tryz.results103 rfl Tryz.agg27 Tryz.size27 rfl (cellsAt_setRow HCl.out (by simp [zeroCells]))) rfl ⟨[.int .i64 k1, .bool b1, .int .i64 n1, .string t1, .string ut1, .string ui1, .slice A3 l3 c3, .slice A4 l4 c4], rfl, ?_, ((HW.out.trans HX1.out).trans HX3.out).setRow (by omega) _⟩
      have hlow : ∀ b, Fresh W0.heap.size w1 b ∨ Fresh w1.heap.size w3 b → w.heap.size + 2 ≤ b ∧ b < w3.heap.size := fun b hb => by
        have h1 := HS0.out
        have h2 := HX1.out.size
        have h3 := HX3.out.size
        rcases hb with hb | hb
        · exact ⟨by have := hb.1; omega, by have := hb.2; omega⟩
        · exact ⟨by have := hb.1; omega, hb.2⟩
      refine (HA.out.alike (w' := w3.setRow (w.heap.size + 1) _) (fun b hb => (GrownBy.setRow w3 (w.heap.size + 1) _).block b (hlow b hb).2 (fun e => by injection e with e; have := (hlow b hb).1; omega))).mono fun b hb => ⟨by have := (hlow b hb).1; omega, by simpa [World.setRow] using (hlow b hb).2⟩
    · have e0 : ((Val.itemsOf items).2 != 0) = true := by simpa using he
      have hr : res = (.zero, (Val.itemsOf items).2) := by
        rw [HD.out, if_neg (by simp [HNL.out])]
        rcases itemsOf_bad he with ⟨h1, h2⟩ | ⟨h1, h2, h3⟩
        · rw [if_pos h1, h2]
        · rw [if_neg (by simp [h1]), if_pos h2, h3]
      have HR := Lib.hid hr
      clear hr he c7
      generalize (Val.itemsOf items).1 = l1 at *
      generalize (Val.itemsOf items).2 = er at *
      go_wp2_with (refine wpList_store_cells rfl 35 _ _ rfl (w.heap.size + 1) 0 rfl zeroCells rfl Tryz.size27 rfl 35 zeroCells.toArray HB1'.out (by simp [zeroCells]) zero_one ?_)
      rw [HR.out]
      exact bodyPost_ret (v := .tuple #[.agg zeroCells.toArray, .int .i64 er]) (results_cell Tryz.results103 rfl Tryz.agg27 Tryz.size27 rfl (cellsAt_setRow HB1'.out (by simp [zeroCells]))) rfl ⟨zeroCells, rfl, Val.zero_at _ _, (HW.out.trans HX1.out).setRow (by omega) _⟩
  · have t0 : ((names.length : Int) != items.length) = true := by simp; omega
    have hr : res = (.zero, 1) := by rw [HD.out, if_pos hnl]
    have HR := Lib.hid hr
    clear hnl hr
    go_enter Tryz.func103, Tryz.ntmps103
    go_wp2_with fail
    rw [HR.out]
    exact bodyPost_ret (v := .tuple #[.agg zeroCells.toArray, .int .i64 1]) (results_cell Tryz.results103 rfl Tryz.agg27 Tryz.size27 rfl (cellsAt_new _ _ (by simp))) rfl ⟨zeroCells, rfl, Val.zero_at _ _, ((Ext.refl w).alloc _).alloc _⟩

set_option maxHeartbeats 400000 in
theorem canP_ok (n : Nat) : ∀ (v : Val) (S : Nat → Prop) (w : World) (cs : List Value), SizeOf.sizeOf v ≤ n → (∀ b, S b → b < w.heap.size) → Val.At S w v cs →
    Calls Tryz.prog 103 #[.agg cs.toArray] w (ValErr v.can.1 v.can.2 w) := by
  induction n with
  | zero => intro v; cases v; simp
  | succ n ih =>
    intro v S w cs hn hS ha
    cases v with
    | mk k bo i t ut ui items names =>
    have hA := ha
    unfold Val.At at ha
    obtain ⟨A, cap, nv, rfl, ⟨hk, hi, h1, h2, h3⟩, _, _, A2, cap2, rfl, _⟩ := ha
    have hm : ∀ x ∈ items, ∀ (w1 : World) (cx : List Value), (∀ b, S b → b < w1.heap.size) → Val.At S w1 x cx → Calls Tryz.prog 103 #[.agg cx.toArray] w1 (ValErr x.can.1 x.can.2 w1) :=
      fun x hx w1 cx hs hx1 => ih x S w1 cx (by have := List.sizeOf_lt_of_mem hx; simp at hn; omega) hs hx1
    by_cases h5 : k = 5
    · subst h5; exact canP5_ok bo i t ut ui items names S w A A2 cap cap2 hS hA hm
    by_cases h6 : k = 6
    · subst h6; exact canP6_ok bo i t ut ui items names S w A A2 cap cap2 hS hA hm
    exact canP_plain k bo i t ut ui A A2 _ cap _ cap2 items names w h5 h6 hi h1 h2 h3
end Go.Proofs.YtjllolagcdjlnaaGreat

/-
  What the reference's canon, and both Canons, come to: the same plain function. The conditions: the value is not deeper than a million.
-/
namespace Go.Proofs.YtjllolagcdjlnaaGreat
open Go.RowKit

set_option maxRecDepth 100000 in
set_option maxHeartbeats 1600000 in
/-- the kinds without items, and what is none -/
theorem canR_plain (k : Int) (bo : Bool) (i : Int) (t ut ui : ByteArray) (A A2 : Option Addr) (l c l2 c2 : Nat) (items : List Val) (names : List ByteArray) (w : World) (h5 : k ≠ 5) (h6 : k ≠ 6) (hi : I64 i) (ht : t.size ≤ maxLen) (hut : ut.size ≤ maxLen) (hui : ui.size ≤ maxLen) :
    Calls Tryz.prog 76 #[.agg #[.int .i64 k, .bool bo, .int .i64 i, .string t, .string ut, .string ui, .slice A l c, .slice A2 l2 c2]] w
      (ValErr (Val.mk k bo i t ut ui items names).can.1 (Val.mk k bo i t ut ui items names).can.2 w) := by
  have hz : I64 0 := by constructor <;> omega
  have hx : Ext w ((w.alloc (.cells #[.int .i64 k, .bool bo, .int .i64 i, .string t, .string ut, .string ui, .slice A l c, .slice A2 l2 c2] 35))) := (Ext.refl w).alloc _
  have HX := Lib.hid hx
  have HI := Lib.hid hi
  have HZ := Lib.hid hz
  have HT := Lib.hid ht
  have HUt := Lib.hid hut
  have HUi := Lib.hid hui
  have hd : (Val.mk k bo i t ut ui items names).can = if k = 1 then (.mk 1 bo 0 empty empty empty [] [], 0) else if k = 2 then (.mk 2 false i empty empty empty [] [], 0) else if k = 3 then (.mk 3 false 0 t empty empty [] [], 0) else if k = 4 then (.mk 4 false 0 empty ut ui [] [], 0) else (.zero, 1) := by
    simp [Val.can, h5, h6]
  have HD := Lib.hid hd
  generalize (Val.mk k bo i t ut ui items names).can = res at *
  clear hx hi ht hut hui hd hz
  by_cases h1 : k = 1
  · have HR : Hid (res = (.mk 1 bo 0 empty empty empty [] [], 0)) := Lib.hid (by rw [HD.out, if_pos h1])
    subst h1
    clear h5 h6
    go_enter Tryz.func76, Tryz.ntmps76
    go_wp2
    rw [HR.out]
    exact bodyPost_ret (v := .tuple #[.agg #[.int .i64 1, .bool bo, .int .i64 0, .string ByteArray.empty, .string ByteArray.empty, .string ByteArray.empty, .slice none 0 0, .slice none 0 0], .int .i64 0]) (results_cell (cs := [.int .i64 1, .bool bo, .int .i64 0, .string ByteArray.empty, .string ByteArray.empty, .string ByteArray.empty, .slice none 0 0, .slice none 0 0]) Tryz.results76 rfl Tryz.agg27 Tryz.size27 rfl ((cellsAt_new _ _ (by simp)).alloc (by simp) _)) rfl ⟨_, rfl, Val.plain_at _ _ _ _ _ _ _ _ (by constructor <;> omega) HZ.out empty_le empty_le empty_le, (HX.out.alloc _).alloc _⟩
  by_cases h2 : k = 2
  · have HR : Hid (res = (.mk 2 false i empty empty empty [] [], 0)) := Lib.hid (by rw [HD.out, if_neg h1, if_pos h2])
    subst h2
    clear h5 h6 h1
    go_enter Tryz.func76, Tryz.ntmps76
    go_wp2
    rw [HR.out]
    exact bodyPost_ret (v := .tuple #[.agg #[.int .i64 2, .bool false, .int .i64 i, .string ByteArray.empty, .string ByteArray.empty, .string ByteArray.empty, .slice none 0 0, .slice none 0 0], .int .i64 0]) (results_cell (cs := [.int .i64 2, .bool false, .int .i64 i, .string ByteArray.empty, .string ByteArray.empty, .string ByteArray.empty, .slice none 0 0, .slice none 0 0]) Tryz.results76 rfl Tryz.agg27 Tryz.size27 rfl ((cellsAt_new _ _ (by simp)).alloc (by simp) _)) rfl ⟨_, rfl, Val.plain_at _ _ _ _ _ _ _ _ (by constructor <;> omega) HI.out empty_le empty_le empty_le, (HX.out.alloc _).alloc _⟩
  by_cases h3 : k = 3
  · have HR : Hid (res = (.mk 3 false 0 t empty empty [] [], 0)) := Lib.hid (by rw [HD.out, if_neg h1, if_neg h2, if_pos h3])
    subst h3
    clear h5 h6 h1 h2
    go_enter Tryz.func76, Tryz.ntmps76
    go_wp2
    rw [HR.out]
    exact bodyPost_ret (v := .tuple #[.agg #[.int .i64 3, .bool false, .int .i64 0, .string t, .string ByteArray.empty, .string ByteArray.empty, .slice none 0 0, .slice none 0 0], .int .i64 0]) (results_cell (cs := [.int .i64 3, .bool false, .int .i64 0, .string t, .string ByteArray.empty, .string ByteArray.empty, .slice none 0 0, .slice none 0 0]) Tryz.results76 rfl Tryz.agg27 Tryz.size27 rfl ((cellsAt_new _ _ (by simp)).alloc (by simp) _)) rfl ⟨_, rfl, Val.plain_at _ _ _ _ _ _ _ _ (by constructor <;> omega) HZ.out HT.out empty_le empty_le, (HX.out.alloc _).alloc _⟩
  by_cases h4 : k = 4
  · have HR : Hid (res = (.mk 4 false 0 empty ut ui [] [], 0)) := Lib.hid (by rw [HD.out, if_neg h1, if_neg h2, if_neg h3, if_pos h4])
    subst h4
    clear h5 h6 h1 h2 h3
    go_enter Tryz.func76, Tryz.ntmps76
    go_wp2
    rw [HR.out]
    exact bodyPost_ret (v := .tuple #[.agg #[.int .i64 4, .bool false, .int .i64 0, .string ByteArray.empty, .string ut, .string ui, .slice none 0 0, .slice none 0 0], .int .i64 0]) (results_cell (cs := [.int .i64 4, .bool false, .int .i64 0, .string ByteArray.empty, .string ut, .string ui, .slice none 0 0, .slice none 0 0]) Tryz.results76 rfl Tryz.agg27 Tryz.size27 rfl ((cellsAt_new _ _ (by simp)).alloc (by simp) _)) rfl ⟨_, rfl, Val.plain_at _ _ _ _ _ _ _ _ (by constructor <;> omega) HZ.out empty_le HUt.out HUi.out, (HX.out.alloc _).alloc _⟩
  have HR : Hid (res = (.zero, 1)) := Lib.hid (by rw [HD.out, if_neg h1, if_neg h2, if_neg h3, if_neg h4])
  by_cases hlow : k < 1
  · have e1 : decide (k < 1) = true := by simpa using hlow
    clear h1 h2 h3 h4 h5 h6 hlow
    go_enter Tryz.func76, Tryz.ntmps76
    go_wp2
    rw [HR.out]
    exact bodyPost_ret (v := .tuple #[.agg zeroCells.toArray, .int .i64 1]) (results_cell Tryz.results76 rfl Tryz.agg27 Tryz.size27 rfl (cellsAt_new _ _ (by simp))) rfl ⟨zeroCells, rfl, Val.zero_at _ _, HX.out.alloc _⟩
  · have e1 : decide (k < 1) = false := by simpa using hlow
    have e2 : decide (6 < k) = true := by simp; omega
    clear h1 h2 h3 h4 h5 h6 hlow
    go_enter Tryz.func76, Tryz.ntmps76
    go_wp2
    rw [HR.out]
    exact bodyPost_ret (v := .tuple #[.agg zeroCells.toArray, .int .i64 1]) (results_cell Tryz.results76 rfl Tryz.agg27 Tryz.size27 rfl (cellsAt_new _ _ (by simp))) rfl ⟨zeroCells, rfl, Val.zero_at _ _, HX.out.alloc _⟩

set_option maxRecDepth 100000 in
set_option maxHeartbeats 400000 in
/-- a record with more or fewer names than items -/
theorem canR_bad (bo : Bool) (i : Int) (t ut ui : ByteArray) (A A2 : Option Addr) (c c2 : Nat) (items : List Val) (names : List ByteArray) (w : World) (_hl1 : items.length ≤ 1073741824) (_hl2 : names.length ≤ 1073741824) (hnl : names.length ≠ items.length) :
    Calls Tryz.prog 76 #[.agg #[.int .i64 6, .bool bo, .int .i64 i, .string t, .string ut, .string ui, .slice A items.length c, .slice A2 names.length c2]] w
      (ValErr (Val.mk 6 bo i t ut ui items names).can.1 (Val.mk 6 bo i t ut ui items names).can.2 w) := by
  have t0 : ((names.length : Int) != items.length) = true := by simp; omega
  have hr : (Val.mk 6 bo i t ut ui items names).can = (.zero, 1) := by rw [Val.can6, if_pos hnl]
  have HR := Lib.hid hr
  generalize (Val.mk 6 bo i t ut ui items names).can = res at *
  clear hnl hr
  go_enter Tryz.func76, Tryz.ntmps76
  go_wp2
  rw [HR.out]
  exact bodyPost_ret (v := .tuple #[.agg zeroCells.toArray, .int .i64 1]) (results_cell Tryz.results76 rfl Tryz.agg27 Tryz.size27 rfl (cellsAt_new _ _ (by simp))) rfl ⟨zeroCells, rfl, Val.zero_at _ _, ((Ext.refl w).alloc _).alloc _⟩

set_option maxHeartbeats 400000 in
theorem canR_ok (n : Nat) : ∀ (v : Val) (S : Nat → Prop) (w : World) (cs : List Value), SizeOf.sizeOf v ≤ n → (∀ b, S b → b < w.heap.size) → Val.At S w v cs →
    Calls Tryz.prog 76 #[.agg cs.toArray] w (ValErr v.can.1 v.can.2 w) := by
  induction n with
  | zero => intro v; cases v; simp
  | succ n ih =>
    intro v S w cs hn hS ha
    cases v with
    | mk k bo i t ut ui items names =>
    have hA := ha
    unfold Val.At at ha
    obtain ⟨A, cap, nv, rfl, ⟨hk, hi, h1, h2, h3⟩, ⟨hl1, _⟩, _, A2, cap2, rfl, hl2, _⟩ := ha
    have hm : ∀ x ∈ items, ∀ (w1 : World) (cx : List Value), (∀ b, S b → b < w1.heap.size) → Val.At S w1 x cx → Calls Tryz.prog 76 #[.agg cx.toArray] w1 (ValErr x.can.1 x.can.2 w1) :=
      fun x hx w1 cx hs hx1 => ih x S w1 cx (by have := List.sizeOf_lt_of_mem hx; simp at hn; omega) hs hx1
    by_cases h5 : k = 5
    · subst h5; exact canR5_ok bo i t ut ui items names S w A A2 cap cap2 hS hA hm
    by_cases h6 : k = 6
    · subst h6
      by_cases hnl : names.length = items.length
      · exact canR6_ok bo i t ut ui items names S w A A2 cap cap2 hS hA hnl hm
      · exact canR_bad bo i t ut ui A A2 cap cap2 items names w (by rwa [LIM_eq] at hl1) (by rwa [LIM_eq] at hl2) hnl
    exact canR_plain k bo i t ut ui A A2 _ cap _ cap2 items names w h5 h6 hi h1 h2 h3

set_option maxRecDepth 100000 in
set_option maxHeartbeats 400000 in
theorem canon_okP (v : Val) (S : Nat → Prop) (w : World) (cs : List Value) (hd : v.dep ≤ 1000000) (hS : ∀ b, S b → b < w.heap.size) (ha : Val.At S w v cs) :
    Calls Tryz.prog 53 #[.agg cs.toArray] w (ValErr v.canon.1 v.canon.2 w) := by
  obtain ⟨k1, b1, n1, t1, ut1, ui1, A1, l1, c1, A2, l2, c2, rfl⟩ := ha.shape
  have HS := Lib.hid hS
  have Ha := Lib.hid ha
  have HD := Lib.hid (show v.canon = if 50 < v.dep then (.zero, 11) else v.can from rfl)
  have hd0 := v.dep_pos
  generalize v.canon = res at *
  clear hS ha
  have HX0 : Hid (Ext w ((w.alloc (.cells #[.int .i64 k1, .bool b1, .int .i64 n1, .string t1, .string ut1, .string ui1, .slice A1 l1 c1, .slice A2 l2 c2] 35)).alloc (.cells #[.int .i64 0, .bool false, .int .i64 0, .string ⟨#[]⟩, .string ⟨#[]⟩, .string ⟨#[]⟩, .slice none 0 0, .slice none 0 0] 35))) := Lib.hid (((Ext.refl w).alloc _).alloc _)
  go_enter Tryz.func53, Tryz.ntmps53
  go_wp2_with fail
  generalize hW0 : (w.alloc (.cells #[.int .i64 k1, .bool b1, .int .i64 n1, .string t1, .string ut1, .string ui1, .slice A1 l1 c1, .slice A2 l2 c2] 35)).alloc (.cells #[.int .i64 0, .bool false, .int .i64 0, .string ⟨#[]⟩, .string ⟨#[]⟩, .string ⟨#[]⟩, .slice none 0 0, .slice none 0 0] 35) = W0 at *
  have HB0 : Hid (W0.heap[w.heap.size]? = some (.cells #[.int .i64 k1, .bool b1, .int .i64 n1, .string t1, .string ut1, .string ui1, .slice A1 l1 c1, .slice A2 l2 c2] 35 (0, 0))) := Lib.hid (by rw [← hW0, Below.heap_alloc _ _ _ (by simp)]; exact heap_alloc_at rfl _)
  have HB1 : Hid (W0.heap[w.heap.size + 1]? = some (.cells zeroCells.toArray 35 (0, 0))) := Lib.hid (by rw [← hW0]; exact heap_alloc_at (by simp) _)
  have HS0 : Hid (W0.heap.size = w.heap.size + 2) := Lib.hid (by rw [← hW0]; simp)
  clear hW0
  refine (depth_okP _ v S _ [.int .i64 k1, .bool b1, .int .i64 n1, .string t1, .string ut1, .string ui1, .slice A1 l1 c1, .slice A2 l2 c2] (Nat.le_refl _) (by omega) (fun b hb => Nat.lt_of_lt_of_le (HS.out b hb) HX0.out.size) (Ha.out.alike (Alike.of_ext HX0.out HS.out))).mono ?_
  rintro e w1 ⟨rfl, hx1⟩
  have HX1 := Lib.hid hx1
  have hcell := (hx1.block _ (Blk_lt HB1.out)).trans HB1.out
  have HB1' := Lib.hid hcell
  have hbox := (hx1.block _ (Blk_lt HB0.out)).trans HB0.out
  have HB0' := Lib.hid hbox
  clear hx1 hcell hbox
  by_cases h50 : 50 < v.dep
  · have t0 : decide ((50 : Int) < v.dep) = true := by simp; omega
    have HR : Hid (res = (.zero, 11)) := Lib.hid (by rw [HD.out, if_pos h50])
    clear h50
    go_wp2_with (refine wpList_store_cells rfl 35 _ _ rfl (w.heap.size + 1) 0 rfl zeroCells rfl Tryz.size27 rfl 35 zeroCells.toArray HB1'.out (by simp [zeroCells]) zero_one ?_)
    rw [HR.out]
    exact bodyPost_ret (v := .tuple #[.agg zeroCells.toArray, .int .i64 11]) (results_cell Tryz.results53 rfl Tryz.agg27 Tryz.size27 rfl (cellsAt_setRow HB1'.out (by simp [zeroCells]))) rfl ⟨zeroCells, rfl, Val.zero_at _ _, (HX0.out.trans HX1.out).setRow (by omega) _⟩
  · have t0 : decide ((50 : Int) < v.dep) = false := by simp; omega
    have HR : Hid (res = v.can) := Lib.hid (by rw [HD.out, if_neg h50])
    clear h50
    go_wp2_with (refine wpList_load_cells rfl 35 _ rfl w.heap.size 0 rfl Tryz.agg27 Tryz.size27 rfl (fun j v hj => by rw [cell_of_row _ _ _ _ _ _ HB0'.out, Nat.zero_add]; simpa using hj) ?_)
    refine (canP_ok _ v S _ [.int .i64 k1, .bool b1, .int .i64 n1, .string t1, .string ut1, .string ui1, .slice A1 l1 c1, .slice A2 l2 c2] (Nat.le_refl _) (fun b hb => Nat.lt_of_lt_of_le (HS.out b hb) (HX0.out.trans HX1.out).size) (Ha.out.alike (Alike.of_ext (HX0.out.trans HX1.out) HS.out))).mono ?_
    rintro e w3 ⟨cs, rfl, hat, hx3⟩
    obtain ⟨k3, b3, n3, t3, ut3, ui3, A3, l3, c3, A4, l4, c4, rfl⟩ := hat.shape
    have HA := Lib.hid hat
    have HX3 := Lib.hid hx3
    have hcell := (hx3.block _ (Blk_lt HB1'.out)).trans HB1'.out
    have HCl := Lib.hid hcell
    have hone := hat.one
    have HOne := Lib.hid hone
    clear hat hx3 hcell hone
    rw [← HR.out] at HA
    generalize hq : v.can.2 = q
    have HQ : Hid (res.2 = q) := Lib.hid (by rw [HR.out]; exact hq)
    clear hq
    go_wp2_with (refine wpList_store_cells rfl 35 _ _ rfl (w.heap.size + 1) 0 rfl [.int .i64 k3, .bool b3, .int .i64 n3, .string t3, .string ut3, .string ui3, .slice A3 l3 c3, .slice A4 l4 c4] rfl Tryz.size27 rfl 35 zeroCells.toArray HCl.out (by simp [zeroCells]) HOne.out ?_)
    rw [HQ.out]
    refine bodyPost_ret (v := .tuple #[.agg #[.int .i64 k3, .bool b3, .int .i64 n3, .string t3, .string ut3, .string ui3, .slice A3 l3 c3, .slice A4 l4 c4], .int .i64 q]) (results_cell Tryz.results53 rfl Tryz.agg27 Tryz.size27 rfl (cellsAt_setRow HCl.out (by simp [zeroCells]))) rfl ⟨[.int .i64 k3, .bool b3, .int .i64 n3, .string t3, .string ut3, .string ui3, .slice A3 l3 c3, .slice A4 l4 c4], rfl, ?_, ((HX0.out.trans HX1.out).trans HX3.out).setRow (by omega) _⟩
    have hlow : w.heap.size + 2 ≤ w1.heap.size := by have := HS0.out; have := HX1.out.size; omega
    refine (HA.out.alike (w' := w3.setRow (w.heap.size + 1) _) (fun b hb => (GrownBy.setRow w3 (w.heap.size + 1) _).block b hb.2 (fun e => by injection e with e; have := hb.1; omega))).mono fun b hb => ⟨by have := hb.1; omega, by simpa [World.setRow] using hb.2⟩
set_option maxRecDepth 100000 in
set_option maxHeartbeats 400000 in
theorem canon_okR (v : Val) (S : Nat → Prop) (w : World) (cs : List Value) (hd : v.dep ≤ 1000000) (hS : ∀ b, S b → b < w.heap.size) (ha : Val.At S w v cs) :
    Calls Tryz.prog 35 #[.agg cs.toArray] w (ValErr v.canon.1 v.canon.2 w) := by
  obtain ⟨k1, b1, n1, t1, ut1, ui1, A1, l1, c1, A2, l2, c2, rfl⟩ := ha.shape
  have HS := Lib.hid hS
  have Ha := Lib.hid ha
  have HD := Lib.hid (show v.canon = if 50 < v.dep then (.zero, 11) else v.can from rfl)
  have hd0 := v.dep_pos
  generalize v.canon = res at *
  clear hS ha
  have HX0 : Hid (Ext w ((w.alloc (.cells #[.int .i64 k1, .bool b1, .int .i64 n1, .string t1, .string ut1, .string ui1, .slice A1 l1 c1, .slice A2 l2 c2] 35)).alloc (.cells #[.int .i64 0, .bool false, .int .i64 0, .string ⟨#[]⟩, .string ⟨#[]⟩, .string ⟨#[]⟩, .slice none 0 0, .slice none 0 0] 35))) := Lib.hid (((Ext.refl w).alloc _).alloc _)
  go_enter Tryz.func35, Tryz.ntmps35
  go_wp2_with fail
  generalize hW0 : (w.alloc (.cells #[.int .i64 k1, .bool b1, .int .i64 n1, .string t1, .string ut1, .string ui1, .slice A1 l1 c1, .slice A2 l2 c2] 35)).alloc (.cells #[.int .i64 0, .bool false, .int .i64 0, .string ⟨#[]⟩, .string ⟨#[]⟩, .string ⟨#[]⟩, .slice none 0 0, .slice none 0 0] 35) = W0 at *
  have HB0 : Hid (W0.heap[w.heap.size]? = some (.cells #[.int .i64 k1, .bool b1, .int .i64 n1, .string t1, .string ut1, .string ui1, .slice A1 l1 c1, .slice A2 l2 c2] 35 (0, 0))) := Lib.hid (by rw [← hW0, Below.heap_alloc _ _ _ (by simp)]; exact heap_alloc_at rfl _)
  have HB1 : Hid (W0.heap[w.heap.size + 1]? = some (.cells zeroCells.toArray 35 (0, 0))) := Lib.hid (by rw [← hW0]; exact heap_alloc_at (by simp) _)
  have HS0 : Hid (W0.heap.size = w.heap.size + 2) := Lib.hid (by rw [← hW0]; simp)
  clear hW0
  refine (depth_okR _ v S _ [.int .i64 k1, .bool b1, .int .i64 n1, .string t1, .string ut1, .string ui1, .slice A1 l1 c1, .slice A2 l2 c2] (Nat.le_refl _) (by omega) (fun b hb => Nat.lt_of_lt_of_le (HS.out b hb) HX0.out.size) (Ha.out.alike (Alike.of_ext HX0.out HS.out))).mono ?_
  rintro e w1 ⟨rfl, hx1⟩
  have HX1 := Lib.hid hx1
  have hcell := (hx1.block _ (Blk_lt HB1.out)).trans HB1.out
  have HB1' := Lib.hid hcell
  have hbox := (hx1.block _ (Blk_lt HB0.out)).trans HB0.out
  have HB0' := Lib.hid hbox
  clear hx1 hcell hbox
  by_cases h50 : 50 < v.dep
  · have t0 : decide ((50 : Int) < v.dep) = true := by simp; omega
    have HR : Hid (res = (.zero, 11)) := Lib.hid (by rw [HD.out, if_pos h50])
    clear h50
    go_wp2_with (refine wpList_store_cells rfl 35 _ _ rfl (w.heap.size + 1) 0 rfl zeroCells rfl Tryz.size27 rfl 35 zeroCells.toArray HB1'.out (by simp [zeroCells]) zero_one ?_)
    rw [HR.out]
    exact bodyPost_ret (v := .tuple #[.agg zeroCells.toArray, .int .i64 11]) (results_cell Tryz.results35 rfl Tryz.agg27 Tryz.size27 rfl (cellsAt_setRow HB1'.out (by simp [zeroCells]))) rfl ⟨zeroCells, rfl, Val.zero_at _ _, (HX0.out.trans HX1.out).setRow (by omega) _⟩
  · have t0 : decide ((50 : Int) < v.dep) = false := by simp; omega
    have HR : Hid (res = v.can) := Lib.hid (by rw [HD.out, if_neg h50])
    clear h50
    go_wp2_with (refine wpList_load_cells rfl 35 _ rfl w.heap.size 0 rfl Tryz.agg27 Tryz.size27 rfl (fun j v hj => by rw [cell_of_row _ _ _ _ _ _ HB0'.out, Nat.zero_add]; simpa using hj) ?_)
    refine (canR_ok _ v S _ [.int .i64 k1, .bool b1, .int .i64 n1, .string t1, .string ut1, .string ui1, .slice A1 l1 c1, .slice A2 l2 c2] (Nat.le_refl _) (fun b hb => Nat.lt_of_lt_of_le (HS.out b hb) (HX0.out.trans HX1.out).size) (Ha.out.alike (Alike.of_ext (HX0.out.trans HX1.out) HS.out))).mono ?_
    rintro e w3 ⟨cs, rfl, hat, hx3⟩
    obtain ⟨k3, b3, n3, t3, ut3, ui3, A3, l3, c3, A4, l4, c4, rfl⟩ := hat.shape
    have HA := Lib.hid hat
    have HX3 := Lib.hid hx3
    have hcell := (hx3.block _ (Blk_lt HB1'.out)).trans HB1'.out
    have HCl := Lib.hid hcell
    have hone := hat.one
    have HOne := Lib.hid hone
    clear hat hx3 hcell hone
    rw [← HR.out] at HA
    generalize hq : v.can.2 = q
    have HQ : Hid (res.2 = q) := Lib.hid (by rw [HR.out]; exact hq)
    clear hq
    go_wp2_with (refine wpList_store_cells rfl 35 _ _ rfl (w.heap.size + 1) 0 rfl [.int .i64 k3, .bool b3, .int .i64 n3, .string t3, .string ut3, .string ui3, .slice A3 l3 c3, .slice A4 l4 c4] rfl Tryz.size27 rfl 35 zeroCells.toArray HCl.out (by simp [zeroCells]) HOne.out ?_)
    rw [HQ.out]
    refine bodyPost_ret (v := .tuple #[.agg #[.int .i64 k3, .bool b3, .int .i64 n3, .string t3, .string ut3, .string ui3, .slice A3 l3 c3, .slice A4 l4 c4], .int .i64 q]) (results_cell Tryz.results35 rfl Tryz.agg27 Tryz.size27 rfl (cellsAt_setRow HCl.out (by simp [zeroCells]))) rfl ⟨[.int .i64 k3, .bool b3, .int .i64 n3, .string t3, .string ut3, .string ui3, .slice A3 l3 c3, .slice A4 l4 c4], rfl, ?_, ((HX0.out.trans HX1.out).trans HX3.out).setRow (by omega) _⟩
    have hlow : w.heap.size + 2 ≤ w1.heap.size := by have := HS0.out; have := HX1.out.size; omega
    refine (HA.out.alike (w' := w3.setRow (w.heap.size + 1) _) (fun b hb => (GrownBy.setRow w3 (w.heap.size + 1) _).block b hb.2 (fun e => by injection e with e; have := hb.1; omega))).mono fun b hb => ⟨by have := hb.1; omega, by simpa [World.setRow] using hb.2⟩
end Go.Proofs.YtjllolagcdjlnaaGreat

/-
  What the program's Canon of entities comes to. The conditions: the entities lie in memory as they should, none is nested deeper than a million.
-/
namespace Go.Proofs.YtjllolagcdjlnaaGreat
open Go.RowKit

set_option maxRecDepth 100000 in
/-- is a parent missing? -/
theorem missing_ok (us : List Uid) (u : Uid) (hu : FitU u) (w : World) (bA B n : Nat) (h1 : OneBox w bA (.map (some B)) 87) (h2 : MapU w B (idx us) n) :
    Calls Tryz.prog 54 (#[valU u] ++ #[.pointer (some ⟨bA, 0, none⟩)]) w fun e w' => e = .returned (.bool (!(idx us u).isSome)) ∧ Ext w w' := by
  have HX := Lib.hid ((Ext.refl w).alloc (.cells #[.string u.1, .string u.2] 31))
  have c0 := (h1.block (HX.out.block _ (Blk_lt h1))).cell
  have HM := Lib.hid (h2.ext HX.out)
  have HU := Lib.hid hu
  clear h1 h2 hu
  obtain ⟨bb, hbb⟩ : ∃ bb, (idx us u).isSome = bb := ⟨_, rfl⟩
  have HB := Lib.hid hbb
  rw [hbb]
  clear hbb
  show Calls Tryz.prog 54 #[.agg #[.string u.1, .string u.2], .pointer (some ⟨bA, 0, none⟩)] w _
  go_enter Tryz.func54, Tryz.ntmps54
  go_wp2_with (at_lookup; refine wpList_lookup_uid rfl _ _ rfl B _ _ rfl HM.out u HU.out rfl bb HB.out ?_; intro c hc hcl; clear hc)
  go_ret
  exact ⟨rfl, HX.out⟩

set_option maxRecDepth 100000 in
/-- the order of entities -/
theorem byUid_ok (S : Nat → Prop) (a b : Ent) (w : World) (ca cb : List Value) (ha : entR.At S w a ca) (hb : entR.At S w b cb) :
    Calls Tryz.prog 60 (#[.agg ca.toArray, .agg cb.toArray] ++ #[]) w fun e w' => e = .returned (.int .i64 (cmpE a b)) ∧ Ext w w' := by
  obtain ⟨A1, l1, c1, k1, q1, n1, t1, u1, v1, A2, l2, c2, A3, l3, c3, rfl⟩ := ent_shape ha
  obtain ⟨A4, l4, c4, k2, q2, n2, t2, u2, v2, A5, l5, c5, A6, l6, c6, rfl⟩ := ent_shape hb
  clear ha hb
  show Calls Tryz.prog 60 #[_, _] w _
  go_enter Tryz.func60, Tryz.ntmps60
  go_wp2_with (go_at_call 48; refine (orderU_ok a.uid b.uid _).mono ?_; rintro e w' ⟨rfl, hx⟩; have HX := Lib.hid hx; clear hx)
  go_ret
  exact ⟨rfl, (((Ext.refl w).alloc _).alloc _).trans HX.out⟩

/-! ### what is taken so far -/
theorem onesE_snoc {us : List Uid} {x : Ent} (h0 : (oneE us x).2 = 0) : ∀ {l ys : List Ent}, onesE us l = (ys, 0) → onesE us (l ++ [x]) = (ys ++ [(oneE us x).1], 0)
  | [], ys, h => by simp [onesE] at h; subst h; simp [onesE, h0]
  | y :: r, ys, h => by
    simp only [onesE] at h
    split at h
    · rename_i h1; simp at h; exact absurd h.2 h1
    · split at h
      · rename_i h1; simp at h; exact absurd h.2 h1
      · rename_i h1 h2
        simp at h1 h2 h
        subst h
        have := onesE_snoc h0 (l := r) (ys := (onesE us r).1) (by rw [← h2])
        simp [onesE, h1, this]
theorem onesE_bad {us : List Uid} {x : Ent} (h0 : (oneE us x).2 ≠ 0) : ∀ {l r ys : List Ent}, onesE us l = (ys, 0) → onesE us (l ++ x :: r) = ([], (oneE us x).2)
  | [], _, _, _ => by simp [onesE, h0]
  | y :: l, r, ys, h => by
    simp only [onesE] at h
    split at h
    · rename_i h1; simp at h; exact absurd h.2 h1
    · split at h
      · rename_i h1; simp at h; exact absurd h.2 h1
      · rename_i h1 h2
        simp at h1 h2
        have := onesE_bad h0 (l := l) (r := r) (ys := (onesE us l).1) (by rw [← h2])
        simp [onesE, h1, this, h0]
theorem onesE_length {us : List Uid} : ∀ {l : List Ent}, (onesE us l).2 = 0 → (onesE us l).1.length = l.length
  | [], _ => rfl
  | y :: r, h => by
    simp only [onesE] at h ⊢
    split at h
    · rename_i h1; exact absurd h h1
    · split at h
      · rename_i h1; exact absurd h h1
      · rename_i h1 h2
        simp at h2
        rw [if_neg h1, if_neg (by simpa using h2)]
        simp [onesE_length h2]
theorem oneE_uid (us : List Uid) (x : Ent) : (oneE us x).1.uid = x.uid := by
  unfold oneE
  split
  · rfl
  · split
    · rfl
    · split <;> rfl
theorem onesE_uids {us : List Uid} : ∀ {l : List Ent}, (onesE us l).2 = 0 → (onesE us l).1.map Ent.uid = l.map Ent.uid
  | [], _ => rfl
  | y :: r, h => by
    simp only [onesE] at h ⊢
    split at h
    · rename_i h1; exact absurd h h1
    · split at h
      · rename_i h1; exact absurd h h1
      · rename_i h1 h2
        simp at h2
        rw [if_neg h1, if_neg (by simpa using h2)]
        simp only [List.map_cons, onesE_uids h2]
        rw [oneE_uid]
theorem oneE_bad_kind {us : List Uid} {x : Ent} (h : x.av.kind ≠ 6) : (oneE us x).2 = 1 := by simp [oneE, h]
theorem oneE_bad_value {us : List Uid} {x : Ent} (h : x.av.kind = 6) (hb : x.av.canon.2 ≠ 0) : (oneE us x).2 = x.av.canon.2 := by simp [oneE, h, hb]
theorem oneE_bad_parent {us : List Uid} {x : Ent} (h : x.av.kind = 6) (hb : x.av.canon.2 = 0) (hp : x.ps.any (fun p => !(idx us p).isSome) = true) : (oneE us x).2 = 20 := by
  have : x.ps.all (fun p => (idx us p).isSome) = false := by
    rw [← Bool.not_eq_true, List.all_eq_true]
    intro hall
    obtain ⟨p, hp1, hp2⟩ := List.any_eq_true.1 hp
    rw [hall p hp1] at hp2; cases hp2
  simp only [oneE, h, hb, this]; rfl
theorem oneE_good {us : List Uid} {x : Ent} (h : x.av.kind = 6) (hb : x.av.canon.2 = 0) (hp : x.ps.any (fun p => !(idx us p).isSome) = false) : oneE us x = (⟨x.uid, sortU ordU x.ps, x.av.canon.1⟩, 0) := by
  have : x.ps.all (fun p => (idx us p).isSome) = true := by
    rw [List.all_eq_true]
    intro p hp1
    have := (List.any_eq_false.1 hp) p hp1
    cases hi : idx us p with
    | none => rw [hi] at this; simp at this
    | some i => rfl
  simp only [oneE, h, hb, this]; rfl

/-- sorted and without repeats -/
theorem dedupU_sorted {l l' : List Uid} (hp : l'.Perm l) (hs : l'.Pairwise fun a b => ordU a b ≤ 0) : dedup ordU l' = sortU ordU l :=
  dedup_sorted GoodAt.ordU (P := fun _ => True) (fun _ _ _ _ h => ordU_eq h) (fun _ _ => trivial) hp hs
/-- of entities with names of their own -/
theorem sortedE {l l' : List Ent} (hn : (l.map Ent.uid).Nodup) (hp : l'.Perm l) (hs : l'.Pairwise fun a b => cmpE a b ≤ 0) : l' = sortU cmpE l := by
  have hu : ∀ x y : Ent, x ∈ l → y ∈ l → cmpE x y = 0 → x = y := fun x y hx hy h => by
    have he := ordU_eq h
    obtain ⟨i, hi⟩ := List.mem_iff_getElem?.1 hx
    obtain ⟨j, hj⟩ := List.mem_iff_getElem?.1 hy
    have h1 := idx_of_get hn (i := i) (u := x.uid) (by simp [hi])
    have h2 := idx_of_get hn (i := j) (u := x.uid) (by simp [hj, he])
    rw [h1] at h2
    obtain rfl := Option.some.inj h2
    rw [hi] at hj
    exact Option.some.inj hj
  have hd : dedup cmpE l' = sortU cmpE l := dedup_sorted GoodAt.cmpE (P := fun x => x ∈ l) hu (fun _ h => h) hp hs
  rw [← hd]
  have hn' : (l'.map Ent.uid).Nodup := (hp.map Ent.uid).nodup_iff.2 hn
  cases l' with
  | nil => rfl
  | cons x r =>
    have := dedup_apart (c := cmpE) (l := x :: r) (k := r.length) (by simp) fun i a b hi ha hb h0 => by
      have he := ordU_eq h0
      have h1 := idx_of_get hn' (i := i) (u := a.uid) (by rw [List.getElem?_map, ha]; rfl)
      have h2 := idx_of_get hn' (i := i + 1) (u := a.uid) (by rw [List.getElem?_map, hb]; simp [he])
      rw [h1] at h2
      have := Option.some.inj h2
      omega
    rw [List.take_of_length_le (by simp)] at this
    exact this.symm

/-- a row of entities in new memory, and an error -/
def EntsErr (l : List Ent) (er : Int) (w : World) (e : Ending) (w' : World) : Prop :=
  ∃ v, e = .returned (.tuple #[v, .int .i64 er]) ∧ (∃ xs, w'.ownsRow w.heap.size 37 11 v l.length xs ∧ entR.Flat (Made w.heap.size w' v) w' l xs) ∧ Ext w w'
theorem EntsErr.none {er : Int} {w w' : World} (h : Ext w w') : EntsErr [] er w (.returned (.tuple #[.slice none 0 0, .int .i64 er])) w' := ⟨_, rfl, ⟨[], World.ownsRow_nil _ _ _ _, rfl⟩, h⟩

theorem Tryz.info60 : (Tryz.prog.info? 37).map (fun i => (i.zero, i.size, i.bytes)) = some (some (.agg #[.string ByteArray.empty, .string ByteArray.empty, .slice none 0 0, .int .i64 0, .bool false, .int .i64 0, .string ByteArray.empty, .string ByteArray.empty, .string ByteArray.empty, .slice none 0 0, .slice none 0 0]), 11, 176) := by kernel_rfl
theorem Tryz.enter65 : ∀ args w, (callFunc 54 args).run Tryz.prog w = .ok (.enter 54 args) w := fun _ _ => by kernel_rfl
theorem Tryz.enter71 : ∀ args w, (callFunc 60 args).run Tryz.prog w = .ok (.enter 60 args) w := fun _ _ => by kernel_rfl

theorem lst1 {α : Type} {l : List α} (h : l.length = 1) : ∃ a, l = [a] := by
  match l, h with
  | [_], _ => exact ⟨_, rfl⟩
theorem lst2 {α : Type} {l : List α} (h : l.length = 2) : ∃ a b, l = [a, b] := by
  match l, h with
  | [_, _], _ => exact ⟨_, _, rfl⟩
theorem lst3 {α : Type} {l : List α} (h : l.length = 3) : ∃ a b c, l = [a, b, c] := by
  match l, h with
  | [_, _, _], _ => exact ⟨_, _, _, rfl⟩
theorem lst4 {α : Type} {l : List α} (h : l.length = 4) : ∃ a b c d, l = [a, b, c, d] := by
  match l, h with
  | [_, _, _, _], _ => exact ⟨_, _, _, _, rfl⟩
theorem lst9 {α : Type} {l : List α} (h : l.length = 9) : ∃ a0 a1 a2 a3 a4 a5 a6 a7 a8, l = [a0, a1, a2, a3, a4, a5, a6, a7, a8] := by
  match l, h with
  | [_, _, _, _, _, _, _, _, _], _ => exact ⟨_, _, _, _, _, _, _, _, _, rfl⟩

theorem Tryz.field60 (O : Nat) : ∀ w, (Instr.fieldAt 37 (.pointer (some ⟨O, 0, none⟩)) 0).run Tryz.prog w = .ok (.pointer (some ⟨O, 0, none⟩)) w := by
  intro w; simp [Instr.fieldAt, go_sem]
theorem Tryz.build57 (v0 v1 v2 v3 v4 v5 v6 v7 v8 v9 va : Value) : ∀ w, (Instr.buildSlice 22 1 #[(0, .agg #[v0, v1, v2, v3, v4, v5, v6, v7, v8, v9, va])]).run Tryz.prog w = .ok (.slice (some ⟨w.heap.size, 0, none⟩) 1 1) (w.alloc (.cells #[v0, v1, v2, v3, v4, v5, v6, v7, v8, v9, va] 37)) := by
  intro w; simp [Instr.buildSlice, go_sem]
theorem Tryz.built60 (s t : ByteArray) (A : Option Addr) (n c : Nat) (r0 : Int) (r1 : Bool) (r2 : Int) (r3 r4 r5 : ByteArray) (r6 : Option Addr) (r7 r8 : Nat) (r9 : Option Addr) (ra rb : Nat) : Tryz.prog.built 37 [(0, .agg #[.string s, .string t]), (1, .slice A n c), (2, .agg #[.int .i64 r0, .bool r1, .int .i64 r2, .string r3, .string r4, .string r5, .slice r6 r7 r8, .slice r9 ra rb])] =
    some #[.string s, .string t, .slice A n c, .int .i64 r0, .bool r1, .int .i64 r2, .string r3, .string r4, .string r5, .slice r6 r7 r8, .slice r9 ra rb] := by kernel_rfl
theorem exec_build_agg {P : Program} {o : Oper} {a : Act} {w : World} (t : TypeId) (parts : Array (Nat × Operand)) (ho : o.op = .build t parts) {vals : List (Nat × Value)} (hv : (parts.map fun (i, x) => (i, a.eval x)).toList = vals) {cells : Array Value}
    (hb : P.built t vals = some cells) : (execOp a.eval o).run P w = .ok (.value (.agg cells)) w := by
  unfold execOp
  simp only [ho, Sem.run_bind, run_build w t _ cells (by rw [hv]; exact hb), Result.andThen_ok]
  rfl

/-- the cells of an entity that is laid -/
def entCells (u : Uid) (v : Value) (av : List Value) : List Value := .string u.1 :: .string u.2 :: v :: av
/-- its parents, sorted and without repeats -/
def CompE (cB : Nat) (w7 : World) (d : List Uid) (v : Value) (W : World) : Prop :=
  Below cB w7 W ∧ w7.drawn ≤ W.drawn ∧ ∃ xs', W.ownsRow cB 31 2 v d.length xs' ∧ uidR.Flat (fun _ => True) W d xs'
/-- one entity more: how far -/
def StageE (cB : Nat) (w7 : World) (d : List Uid) (u : Uid) (av : List Value) (base : Nat) (out : Value) (n : Nat) (xs : List Value) : List Value → World → Prop
  | [], W => Ext w7 W
  | [v1], W => CompE cB w7 d v1 W
  | [v1, e], W => CompE cB w7 d v1 W ∧ e = .agg (entCells u v1 av).toArray
  | [v1, e, bl], W => ∃ W1, CompE cB w7 d v1 W1 ∧ e = .agg (entCells u v1 av).toArray ∧ bl = .slice (some ⟨W1.heap.size, 0, none⟩) 1 1 ∧ W = W1.alloc (.cells (entCells u v1 av).toArray 37)
  | [v1, _, _, v2], W => ∃ W1, CompE cB w7 d v1 W1 ∧ W.ownsRow base 37 11 v2 (n + 1) (xs ++ entCells u v1 av) ∧ GrownBy (W1.alloc (.cells (entCells u v1 av).toArray 37)) W out.ownBlock ∧
      (v2.ownBlock = out.ownBlock ∨ v2.ownBlock = some (W1.alloc (.cells (entCells u v1 av).toArray 37)).heap.size)
  | _, _ => False

theorem ownsRow_blocks {w w' : World} {base : Nat} {e : TypeId} {size n : Nat} {v : Value} {xs : List Value} (h : w.ownsRow base e size v n xs) (k : ∀ b, v.ownBlock = some b → w'.heap[b]? = w.heap[b]?) : w'.ownsRow base e size v n xs := by
  obtain ⟨h1, h2⟩ := h
  refine ⟨h1, ?_⟩
  rcases h2 with h2 | ⟨g, cap, cur, hv, hg, hh, q⟩
  · exact .inl h2
  · exact .inr ⟨g, cap, cur, hv, hg, (k g (by rw [hv]; rfl)).trans hh, q⟩
theorem StageE.old {cB : Nat} {w7 : World} {d : List Uid} {u : Uid} {av : List Value} {base : Nat} {out : Value} {n : Nat} {xs vs : List Value} {W : World} (h : StageE cB w7 d u av base out n xs vs W) {c1 : Nat} (hb : ∀ b, out.ownBlock = some b → b < c1) (hc : cB ≤ w7.heap.size) :
    ∀ b, c1 ≤ b → b < cB → W.heap[b]? = w7.heap[b]? := by
  intro b h1 h2
  match vs, h with
  | [], h => exact (show Ext w7 W from h).block b (by omega)
  | [v1], h => exact h.1.block b h2
  | [v1, e], h => exact h.1.1.block b h2
  | [v1, e, bl], ⟨W1, hk, _, _, e'⟩ =>
    subst e'
    rw [heap_alloc_old _ _ (Nat.lt_of_lt_of_le (Nat.lt_of_lt_of_le h2 hc) hk.1.size)]
    exact hk.1.block b h2
  | [v1, e, bl, v2], ⟨W1, hk, _, hg, _⟩ =>
    have h3 : b < W1.heap.size := Nat.lt_of_lt_of_le (Nat.lt_of_lt_of_le h2 hc) hk.1.size
    rw [hg.block b (by simp; omega) (fun e => by have := hb b e.symm; omega), heap_alloc_old _ _ h3]
    exact hk.1.block b h2
  | _ :: _ :: _ :: _ :: _ :: _, h => exact h.elim

set_option maxRecDepth 100000 in
set_option maxHeartbeats 1600000 in
theorem canE_ok (S : Nat → Prop) (l : List Ent) (v : Value) (w : World) (hS : ∀ b, S b → b < w.heap.size) (hl : entR.RowsAt S w l v) (hlen : l.length ≤ 1048576) (hps : ∀ e ∈ l, e.ps.length ≤ 1048576) (hdep : ∀ e ∈ l, e.av.dep ≤ 1000000) :
    Calls Tryz.prog 17 #[v] w (EntsErr (canonE l).1 (canonE l).2 w) := by
  have hl' := hl
  obtain ⟨A, cap, rfl, ⟨hl0, hl1, hl2⟩, hlr⟩ := hl
  rw [LIM_eq] at hl0
  rw [maxLen_eq] at hl2
  have HS := Lib.hid hS
  have HL := Lib.hid hlr
  have HL' := Lib.hid hl'
  have HP := Lib.hid hps
  have HDp := Lib.hid hdep
  have hml : (l.map Ent.uid).length = l.length := List.length_map _
  have Hml := Lib.hid hml
  have hdl := dis_le (l.map Ent.uid) l.length
  have hC : canonE l = canonE l := rfl
  conv at hC => rhs; unfold canonE
  have HC := Lib.hid hC
  generalize canonE l = res at *
  clear hS hlr hl' hps hdep hml hC
  obtain ⟨i0, hi, hz0, hz1, hz2⟩ := info_parts Tryz.info60
  go_enter Tryz.func17, Tryz.ntmps17
  go_wp2_with fail
  refine (places_ok S l _ _ HS.out HL'.out hlen).mono ?_
  rintro e w1 ⟨B, rfl, hm, hb, hx⟩
  have HM := Lib.hid hm
  have HX1 := Lib.hid hx
  have HB := Lib.hid hb
  clear hm hx hb
  by_cases hlong : 4096 < l.length
  · have hlz : (4096 : Int) < l.length := by omega
    go_wp2_with fail
    go_ret2
    rw [HC.out, if_pos hlong]
    exact EntsErr.none (HX1.out.alloc _)
  have hlz : ¬ (4096 : Int) < l.length := by omega
  have HA := Lib.hid (OneBox.new w1 (.map (some B)) 87)
  have HX2 := Lib.hid (HX1.out.alloc (.cells #[.map (some B)] 87))
  have HM2 := Lib.hid (HM.out.ext ((Ext.refl w1).alloc (.cells #[.map (some B)] 87)))
  have c0 := HA.out.cell
  by_cases htw : dis (l.map Ent.uid) l.length < l.length
  · go_wp2_with (refine wpList_len_uid rfl _ rfl B _ _ rfl HM2.out ?_)
    go_ret2
    rw [HC.out, if_neg hlong, if_pos (fun hn => by have := dis_nodup hn; rw [Hml.out] at this; omega)]
    exact EntsErr.none HX2.out
  have hnd := nodup_of_dis (us := l.map Ent.uid) (by rw [Hml.out]; exact htw)
  have HN := Lib.hid hnd
  have Hlong := Lib.hid hlong
  clear hnd hdl hlong
  go_wp2_with (refine wpList_len_uid rfl _ rfl B _ _ rfl HM2.out ?_)
  go_loopw [5, 26] (fun u i wr => ∃ k : Nat, k ≤ l.length ∧ i = .int .i64 k ∧ Hid (Ext (w1.alloc (.cells #[.map (some B)] 87)) wr) ∧ Hid (∃ ys xs, onesE (l.map Ent.uid) (l.take k) = (ys, 0) ∧ wr.ownsRow (w1.heap.size + 1) 37 11 u ys.length xs ∧ entR.Flat (Made (w1.heap.size + 1) wr u) wr ys xs)) (fun _ i _ => l.length - (intOf i).toNat)
  case atStart => exact ⟨0, Nat.zero_le _, rfl, Lib.hid (Ext.refl _), Lib.hid ⟨[], [], rfl, World.ownsRow_nil _ _ _ _, rfl⟩⟩
  case round =>
    obtain ⟨k, hk, rfl, HXr, HO⟩ := hrel
    have HXw := Lib.hid (HX2.out.trans HXr.out)
    by_cases hlt : k < l.length
    · obtain ⟨b, o, rfl, hSb, hrow⟩ := HL.out (by omega)
      obtain ⟨x, hx⟩ : ∃ x, l[k]? = some x := ⟨_, List.getElem?_eq_getElem hlt⟩
      obtain ⟨cs, hca, hxa⟩ := hrow k x hx
      have Hca := Lib.hid (hca.alike hSb (Alike.of_ext HXw.out HS.out))
      have Hx := Lib.hid hx
      have Hxa := Lib.hid (entR.alike hxa (Alike.of_ext HXw.out HS.out))
      obtain ⟨A1, l1, c1, q1, q2, q3, q4, q5, q6, A2, l2, c2, A3, l3, c3, rfl⟩ := ent_shape hxa
      have hkind : x.av.kind = q1 := by
        obtain ⟨pv, acs, e, _, _, hat⟩ := hxa
        injection e with _ e
        injection e with _ e
        injection e with _ e
        subst e
        cases hv : x.av with
        | mk kd bo n t ut ui items names =>
          rw [hv] at hat
          unfold Val.At at hat
          obtain ⟨_, _, _, e, _⟩ := hat
          injection e with e _
          injection e with _ e
          exact e.symm
      have HK := Lib.hid hkind
      clear hx hxa hca hrow hSb hkind
      by_cases hk6 : q1 = 6
      · subst hk6
        have Hbox := Lib.hid (heap_alloc_new wr (.cells #[.string x.uid.1, .string x.uid.2, .slice A1 l1 c1, .int .i64 6, .bool q2, .int .i64 q3, .string q4, .string q5, .string q6, .slice A2 l2 c2, .slice A3 l3 c3] 37))
        have HXb := Lib.hid ((Ext.refl wr).alloc (.cells #[.string x.uid.1, .string x.uid.2, .slice A1 l1 c1, .int .i64 6, .bool q2, .int .i64 q3, .string q4, .string q5, .string q6, .slice A2 l2 c2, .slice A3 l3 c3] 37))
        have HSr := Lib.hid (show ∀ b, S b → b < wr.heap.size from fun b hb => Nat.lt_of_lt_of_le (HS.out b hb) HXw.out.size)
        have hparts := Hxa.out
        obtain ⟨pv, acs, e, hfu, hpr, hat⟩ := hparts
        injection e with _ e
        injection e with _ e
        injection e with e1 e
        subst e1 e
        have HFu := Lib.hid hfu
        have HPr := Lib.hid hpr
        have HAt := Lib.hid hat
        clear hfu hpr hat
        go_wp2_with (first | refine wpList_load_cells rfl 37 _ rfl b (o + k * 11) rfl Tryz.agg60 Tryz.size60 rfl Hca.out ?_)
        refine (canon_okP x.av S _ [_, _, _, _, _, _, _, _] (HDp.out x (List.mem_of_getElem? Hx.out)) (fun b hb => Nat.lt_of_lt_of_le (HSr.out b hb) HXb.out.size) (HAt.out.alike (Alike.of_ext HXb.out HSr.out))).mono ?_
        rintro e w3 ⟨cs3, rfl, hat3, hx3⟩
        have HX3 := Lib.hid (HXb.out.trans hx3)
        have HX3' := Lib.hid hx3
        have HA3 := Lib.hid hat3
        clear hx3 hat3
        obtain ⟨r0, r1, r2, r3, r4, r5, r6, r7, r8, r9, ra, rb, rfl⟩ := HA3.out.shape
        by_cases hbv : x.av.canon.2 = 0
        · have t7 : (x.av.canon.2 != 0) = false := by simpa using hbv
          have Hbv := Lib.hid hbv
          have HB8 := Lib.hid (heap_alloc_new w3 (.cells #[.int .i64 r0, .bool r1, .int .i64 r2, .string r3, .string r4, .string r5, .slice r6 r7 r8, .slice r9 ra rb] 35))
          have HX8 := Lib.hid ((Ext.refl w3).alloc (.cells #[.int .i64 r0, .bool r1, .int .i64 r2, .string r3, .string r4, .string r5, .slice r6 r7 r8, .slice r9 ra rb] 35))
          have HB7 := Lib.hid ((HX8.out.block _ (Nat.lt_of_lt_of_le (by simp) HX3'.out.size)).trans ((HX3'.out.block _ (Blk_lt Hbox.out)).trans Hbox.out))
          have e2 := cell_of_row _ _ 2 _ _ _ HB7.out
          simp only [List.getElem?_toArray, List.getElem?_cons_succ, List.getElem?_cons_zero] at e2
          clear hbv
          have HBw := Lib.hid (show ∀ b, S b → b < (w3.alloc (.cells #[.int .i64 r0, .bool r1, .int .i64 r2, .string r3, .string r4, .string r5, .slice r6 r7 r8, .slice r9 ra rb] 35)).heap.size from fun b hb => Nat.lt_of_lt_of_le (HSr.out b hb) (Nat.le_trans HX3.out.size HX8.out.size))
          have HPr3 := Lib.hid (HPr.out.alike (Alike.of_ext (HX3.out.trans HX8.out) HSr.out))
          have hcf := containsFunc_okU 54 #[.pointer (some ⟨w1.heap.size, 0, none⟩)] (fun p => !(idx (l.map Ent.uid) p).isSome) S x.ps (.slice A1 l1 c1) _ Tryz.enter65 HBw.out HPr3.out (fun p _ hp W hW => missing_ok (l.map Ent.uid) p hp W w1.heap.size B (dis (l.map Ent.uid) l.length)
            (HA.out.block ((((HXr.out.trans HX3.out).trans HX8.out).trans hW).block _ (Blk_lt HA.out))) (HM2.out.ext (((HXr.out.trans HX3.out).trans HX8.out).trans hW)))
          cases hany : x.ps.any (fun p => !(idx (l.map Ent.uid) p).isSome) with
          | true =>
            rw [hany] at hcf
            have HCf := Lib.hid hcf
            have hbad : onesE (l.map Ent.uid) l = ([], 20) := by
              obtain ⟨ys, xs, h1, _, _⟩ := HO.out
              have hb := oneE_bad_parent (us := l.map Ent.uid) HK.out Hbv.out hany
              have := onesE_bad (by rw [hb]; decide) (r := l.drop (k + 1)) h1
              rwa [take_drop_of Hx.out, hb] at this
            have Hbad := Lib.hid hbad
            clear hcf hbad hany
            go_wp2_with (go_at_call 55; refine HCf.out.mono ?_; rintro e w5 ⟨rfl, hx5⟩; have HX5 := Lib.hid hx5; clear hx5)
            go_ret2
            rw [HC.out, if_neg Hlong.out, if_neg (fun h => h HN.out), Hbad.out, if_pos (by decide)]
            exact EntsErr.none (((HXw.out.trans HX3.out).trans HX8.out).trans HX5.out)
          | false =>
            rw [hany] at hcf
            have HCf := Lib.hid hcf
            have Hany := Lib.hid hany
            clear hcf hany
            go_wp2_with (go_at_call 55; refine HCf.out.mono ?_; rintro e w5 ⟨rfl, hx5⟩; have HX5 := Lib.hid hx5; clear hx5; have e3 := cell_of_row _ _ 2 _ _ _ ((HX5.out.block _ (Blk_lt HB7.out)).trans HB7.out); simp only [List.getElem?_toArray, List.getElem?_cons_succ, List.getElem?_cons_zero] at e3)
            have HX35 := Lib.hid ((HX3.out.trans HX8.out).trans HX5.out)
            have HPr5 := Lib.hid (HPr.out.alike (Alike.of_ext HX35.out HSr.out))
            have hS5 : ∀ b, S b → b < w5.heap.size := fun b hb => Nat.lt_of_lt_of_le (HSr.out b hb) HX35.out.size
            refine (cloneU_ok S x.ps _ w5 HPr5.out).mono ?_
            rintro e w6 ⟨v6, xs6, rfl, ho6, hf6, hx6⟩
            have Ho6 := Lib.hid ho6
            have Hf6 := Lib.hid hf6
            have HX6 := Lib.hid hx6
            clear hS5 ho6 hf6 hx6 e2 e3 HCf
            obtain ⟨A6, c6, rfl⟩ := own_shape Ho6.out
            have hl6 : x.ps.length ≤ LIM := by have := HP.out x (List.mem_of_getElem? Hx.out); rw [LIM_eq]; omega
            have hsort := uidR.sort_ok Go.Proofs.Tryz.sortU 31 Tryz.agg23 Tryz.size23 ordU GoodAt.ordU 48 #[] Tryz.enterOrdU (fun _ => False) w5.heap.size w6 (.slice A6 x.ps.length c6) x.ps xs6 (fun w1 y z cy cz _ _ hy hz => by
              obtain ⟨rfl, _⟩ := hy
              obtain ⟨rfl, _⟩ := hz
              exact orderU_ok y z w1) (fun b hb => hb.elim) Ho6.out (Hf6.out _ _) hl6
            have HSo := Lib.hid (show Calls Tryz.prog 57 #[.slice A6 x.ps.length c6, .func (.func 48) #[] #[]] w6 _ from hsort)
            clear hsort hl6
            go_wp2_with fail
            refine HSo.out.mono ?_
            rintro e w7 ⟨rfl, l7, xs7, hp7, hs7, ho7, hf7, hb7, hd7, hg7⟩
            have Hp7 := Lib.hid hp7
            have Hs7 := Lib.hid hs7
            have Ho7 := Lib.hid ho7
            have Hf7 := Lib.hid hf7
            have HX7 : Hid (Ext w5 w7) := Lib.hid (ext_apart HX6.out hg7 fun b e => (Ho6.out.lt b e).1)
            clear hp7 hs7 ho7 hf7 hb7 hd7 hg7 HSo
            go_wp2_with fail
            obtain ⟨ys, xs, hcans, hown, hflat⟩ := HO.out
            have Hc := Lib.hid hcans
            have Ho := Lib.hid hown
            have Hf := Lib.hid hflat
            have hyl : ys.length = k := by
              have h1 := onesE_length (us := l.map Ent.uid) (l := l.take k) (by rw [hcans])
              rw [hcans] at h1
              simpa [List.length_take, Nat.min_eq_left hk] using h1
            have Hyl := Lib.hid hyl
            have HX57 := Lib.hid (HX35.out.trans HX7.out)
            have hdd : dedup ordU l7 = sortU ordU x.ps := dedupU_sorted Hp7.out Hs7.out
            have Hdd := Lib.hid hdd
            have hp7l : l7.length = x.ps.length := Hp7.out.length_eq
            have Hp7l := Lib.hid hp7l
            have hpl := HP.out x (List.mem_of_getElem? Hx.out)
            have Hpl := Lib.hid hpl
            have hw35 : wr.heap.size < w5.heap.size ∧ w3.heap.size < w5.heap.size ∧ w5.heap.size ≤ w7.heap.size := by
              have h1 := (Blk_lt HB8.out)
              have h2 := HX5.out.size
              have h3 := Blk_lt HB7.out
              exact ⟨by omega, by omega, HX7.out.size⟩
            have Hw35 := Lib.hid hw35
            have Hb7 := Lib.hid ((HX7.out.block _ (by exact hw35.1)).trans ((HX5.out.block _ (Blk_lt HB7.out)).trans HB7.out))
            have Hb8 := Lib.hid ((HX7.out.block _ (by exact hw35.2.1)).trans ((HX5.out.block _ (Blk_lt HB8.out)).trans HB8.out))
            clear hcans hown hflat hyl hdd hp7l hpl hw35 HO HPr3 HPr5
            refine staged_region 9 [4, 6, 7, 8] [u5, .pointer (some ⟨wr.heap.size, 0, none⟩), .agg #[.string x.uid.1, .string x.uid.2], .slice A6 x.ps.length c6, undef, .agg #[.int .i64 r0, .bool r1, .int .i64 r2, .string r3, .string r4, .string r5, .slice r6 r7 r8, .slice r9 ra rb], undef, undef, undef]
              (StageE w5.heap.size w7 (sortU ordU x.ps) x.uid [.int .i64 r0, .bool r1, .int .i64 r2, .string r3, .string r4, .string r5, .slice r6 r7 r8, .slice r9 ra rb] (w1.heap.size + 1) u5 ys.length xs) (by kernel_rfl) (by kernel_rfl) (by kernel_rfl) (by kernel_rfl)
              ⟨⟨rfl, rfl, rfl, Nat.le_refl _, fun _ _ => rfl⟩, Nat.le_succ _⟩ (fun i op hi hn ho vs W a hRR hold hat => ?_) (fun k' i op hk ho vs W a hvl hRR hold hat Q' K hK => ?_) ?_
            · have hbw := hRR.old (c1 := wr.heap.size) (fun b hb => (Ho.out.lt b hb).2) Hw35.out.2.2
              rcases (by simp at hn; omega : i = 0 ∨ i = 1 ∨ i = 2 ∨ i = 3 ∨ i = 5) with rfl | rfl | rfl | rfl | rfl <;> obtain rfl := Option.some.inj ho
              · exact exec_move rfl (hold 5 (by kernel_rfl))
              · exact exec_field _ _ _ rfl (hold 7 (by kernel_rfl)) (Tryz.field60 wr.heap.size)
              · exact exec_load_cells _ _ rfl wr.heap.size 0 (hat 1 54 (by omega) (by kernel_rfl) (by kernel_rfl)) (cs := [.string x.uid.1, .string x.uid.2]) Tryz.agg23 Tryz.size23 rfl (fun j v hj => by
                  rw [cell_of_row _ _ _ _ _ _ ((hbw _ (Nat.le_refl _) Hw35.out.1).trans Hb7.out)]
                  match j, hj with
                  | 0, h => simpa using h
                  | 1, h => simpa using h)
              · exact exec_move rfl (hold 11 (by kernel_rfl))
              · exact exec_load_cells _ _ rfl w3.heap.size 0 (hold 8 (by kernel_rfl)) (cs := [.int .i64 r0, .bool r1, .int .i64 r2, .string r3, .string r4, .string r5, .slice r6 r7 r8, .slice r9 ra rb]) Tryz.agg27 Tryz.size27 rfl (fun j v hj => by
                  rw [cell_of_row _ _ _ _ _ _ ((hbw _ HX3.out.size Hw35.out.2.1).trans Hb8.out)]
                  simpa using hj)
            · have hk4 : k' < 4 := by simpa using (List.getElem?_eq_some_iff.1 hk).1
              rcases (by omega : k' = 0 ∨ k' = 1 ∨ k' = 2 ∨ k' = 3) with rfl | rfl | rfl | rfl <;> obtain rfl := Option.some.inj hk <;> obtain rfl := Option.some.inj ho
              · obtain rfl := List.eq_nil_of_length_eq_zero hvl
                have hRR : Ext w7 W := hRR
                refine wp_enter2 (Φ := fun v w' => CompE w5.heap.size w7 (sortU ordU x.ps) v w') (exec_call Tryz.func58 rfl rfl rfl (map_one (hat 3 56 (by omega) (by kernel_rfl) (by kernel_rfl)))) ?_ hK
                have hcmp := compactU_ok w5.heap.size W (.slice A6 x.ps.length c6) l7 xs7 (ownsRow_ext Ho7.out hRR) (uidFlat_any Hf7.out) (by rw [LIM_eq, Hp7l.out]; have := Hpl.out; omega)
                refine hcmp.mono ?_
                rintro e w' ⟨v', rfl, xs', o1, o2, o3, o4⟩
                rw [Hdd.out] at o1 o2
                exact ⟨_, rfl, (hRR.toBelow.mono Hw35.out.2.2).trans o3, Nat.le_trans hRR.drawn o4, xs', o1, uidFlat_any o2⟩
              · obtain ⟨v1, rfl⟩ := lst1 hvl
                have hC1 : CompE w5.heap.size w7 (sortU ordU x.ps) v1 W := hRR
                obtain ⟨A7, c7, rfl⟩ := own_shape hC1.2.2.choose_spec.1
                refine wp_value2 (exec_build_agg _ _ rfl (vals := [(0, .agg #[.string x.uid.1, .string x.uid.2]), (1, .slice A7 (sortU ordU x.ps).length c7), (2, .agg #[.int .i64 r0, .bool r1, .int .i64 r2, .string r3, .string r4, .string r5, .slice r6 r7 r8, .slice r9 ra rb])]) ?_ (Tryz.built60 _ _ _ _ _ _ _ _ _ _ _ _ _ _ _ _ _)) (hK _ _ ⟨hC1, rfl⟩)
                have h2 := hat 2 55 (by omega) (by kernel_rfl) (by kernel_rfl)
                have h4 := hat 4 57 (by omega) (by kernel_rfl) (by kernel_rfl)
                have h5 := hat 5 58 (by omega) (by kernel_rfl) (by kernel_rfl)
                simp only [List.map_toArray, List.map_cons, List.map_nil, h2, h4, h5]
                rfl
              · obtain ⟨v1, e1, rfl⟩ := lst2 hvl
                obtain ⟨hC1, rfl⟩ := hRR
                have h6 := hat 6 59 (by omega) (by kernel_rfl) (by kernel_rfl)
                exact wp_value2 (exec_build _ _ rfl h6 (Tryz.build57 _ _ _ _ _ _ _ _ _ _ _ W)) (hK _ _ ⟨W, hC1, rfl, rfl, rfl⟩)
              · obtain ⟨v1, e1, bl, rfl⟩ := lst3 hvl
                obtain ⟨W1, hC1, rfl, rfl, rfl⟩ := hRR
                have h0 := hat 0 53 (by omega) (by kernel_rfl) (by kernel_rfl)
                have h7 := hat 7 60 (by omega) (by kernel_rfl) (by kernel_rfl)
                obtain ⟨A7, c7, rfl⟩ := own_shape hC1.2.2.choose_spec.1
                have hoW : (W1.alloc (.cells (entCells x.uid (.slice A7 (sortU ordU x.ps).length c7) [.int .i64 r0, .bool r1, .int .i64 r2, .string r3, .string r4, .string r5, .slice r6 r7 r8, .slice r9 ra rb]).toArray 37)).ownsRow (w1.heap.size + 1) 37 11 u5 ys.length xs :=
                  ownsRow_blocks (ownsRow_ext Ho.out HX57.out) fun b hb => by
                    have h1 := (Ho.out.lt b hb).2
                    have h2 := hC1.1.size
                    have h3 := Hw35.out
                    rw [heap_alloc_old _ _ (by omega)]
                    exact hC1.1.block b (by omega)
                refine wp_append_at (.tmp 53) (.tmp 60) 22 rfl (w1.heap.size + 1) 37 i0 _ 11 176 Tryz.underlying22 hi hz0 hz1 hz2 rfl (by decide) u5 ys.length xs h0 hoW W1.heap.size 0 1 1 (entCells x.uid (.slice A7 (sortU ordU x.ps).length c7) [.int .i64 r0, .bool r1, .int .i64 r2, .string r3, .string r4, .string r5, .slice r6 r7 r8, .slice r9 ra rb]) h7 rfl (cellsAt_new _ _ rfl) (by simp [entCells, Value.oneCell']) (by rw [maxLen_eq]; have := Hyl.out; omega) (by have := Hyl.out; omega) (by have h1 := HXr.out.size; have h2 := HX57.out.size; have h3 := hC1.1.size; simp at h1 ⊢; omega) fun v' w' ho hg hbl => hK _ _ ⟨W1, hC1, ho, hg, hbl⟩
            · intro zs vs W hzl hvl hRR hzs
              obtain ⟨v1, e1, bl, v2, rfl⟩ := lst4 hvl
              obtain ⟨z0, z1, z2, z3, z4, z5, z6, z7, z8, rfl⟩ := lst9 hzl
              have h8 : z8 = v2 := hzs 8 (by omega)
              subst h8
              obtain ⟨W1, hC1, ho9, hg9, hb9⟩ := hRR
              have Ho9 := Lib.hid ho9
              have Hg9 := Lib.hid hg9
              have Hb9 := Lib.hid hb9
              have HC1 := Lib.hid hC1
              obtain ⟨A9, c9, rfl⟩ := own_shape ho9
              clear hzs hzl hvl ho9 hg9 hb9 hC1
              simp only [List.take, List.drop, putAll]
              go_wp2_with fail
              have hone : oneE (l.map Ent.uid) x = (⟨x.uid, sortU ordU x.ps, x.av.canon.1⟩, 0) := oneE_good HK.out Hbv.out Hany.out
              have hW1 : Ext wr W1 := ⟨HX57.out.toBelow.trans (HC1.out.1.mono (by have := Hw35.out; omega)), Nat.le_trans HX57.out.drawn HC1.out.2.1⟩
              have hyE : entR.At (Fresh wr.heap.size W1) W1 ⟨x.uid, sortU ordU x.ps, x.av.canon.1⟩ (entCells x.uid v1 [.int .i64 r0, .bool r1, .int .i64 r2, .string r3, .string r4, .string r5, .slice r6 r7 r8, .slice r9 ra rb]) := by
                obtain ⟨hb1, hd1, xs', ho1, hf1⟩ := HC1.out
                have h35 := Hw35.out
                have h3s := HX3.out.size
                have hbs := hb1.size
                refine ⟨v1, _, rfl, HFu.out, ?_, ?_⟩
                · refine own_rows (R := uidR) ho1 (uidFlat_any (S' := fun _ => False) hf1) ?_ (fun b hb => hb.elim) fun b hb => ?_
                  · have h1 := sortU_length (c := ordU) x.ps
                    have h2 := Hpl.out
                    show (sortU ordU x.ps).length ≤ LIM
                    rw [LIM_eq]; omega
                  · have := ho1.lt b hb
                    exact ⟨by omega, this.2⟩
                · refine (HA3.out.alike (w' := W1) fun b hb => ?_).mono fun b hb => ⟨Nat.le_trans HXb.out.size hb.1, by have := hb.2; omega⟩
                  have h1 := hb.2
                  rw [hb1.block b (by omega), HX7.out.block b (by omega), HX5.out.block b (Nat.lt_of_lt_of_le h1 HX8.out.size), HX8.out.block b h1]
              have hflat2 := Rep.flat_step Ho.out Hf.out hW1 ((Ext.refl W1).alloc (.cells (entCells x.uid v1 [.int .i64 r0, .bool r1, .int .i64 r2, .string r3, .string r4, .string r5, .slice r6 r7 r8, .slice r9 ra rb]).toArray 37)) (Nat.le_refl _) (by have := HXr.out.size; simp at this; omega) hyE Hg9.out Hb9.out
              have hfin : ∃ ys' xs', onesE (l.map Ent.uid) (l.take (k + 1)) = (ys', 0) ∧ W.ownsRow (w1.heap.size + 1) 37 11 (.slice A9 (ys.length + 1) c9) ys'.length xs' ∧ entR.Flat (Made (w1.heap.size + 1) W (.slice A9 (ys.length + 1) c9)) W ys' xs' := by
                refine ⟨_, _, ?_, ?_, hflat2⟩
                · rw [take_succ_of Hx.out]
                  have := onesE_snoc (us := l.map Ent.uid) (x := x) (by rw [hone]) Hc.out
                  rwa [hone] at this
                · rw [List.length_append]; exact Ho9.out
              have hext2 : Ext (w1.alloc (.cells #[.map (some B)] 87)) W := ext_apart ((HXr.out.trans hW1).alloc _) Hg9.out fun b e => by
                have := (Ho.out.lt b e).1
                simp; omega
              have HFin := Lib.hid hfin
              have HE2 := Lib.hid hext2
              clear hfin hext2 hflat2 hyE hW1 hone
              go_roundw
              case rel => exact ⟨k + 1, by omega, by go_num, Lib.hid HE2.out, Lib.hid HFin.out⟩
              case measure => simp [intOf]; omega
        · have t7 : (x.av.canon.2 != 0) = true := by simpa using hbv
          have hbad : onesE (l.map Ent.uid) l = ([], x.av.canon.2) := by
            obtain ⟨ys, xs, h1, _, _⟩ := HO.out
            have hb := oneE_bad_value (us := l.map Ent.uid) HK.out hbv
            have := onesE_bad (by rw [hb]; exact hbv) (r := l.drop (k + 1)) h1
            rwa [take_drop_of Hx.out, hb] at this
          have Hbad := Lib.hid hbad
          have Hbv := Lib.hid hbv
          clear hbv hbad
          go_wp2_with fail
          go_ret2
          rw [HC.out, if_neg Hlong.out, if_neg (fun h => h HN.out), Hbad.out, if_pos Hbv.out]
          exact EntsErr.none ((HXw.out.trans HX3.out).alloc _)
      · have t6 : (q1 != 6) = true := by simpa using hk6
        have hbad : onesE (l.map Ent.uid) l = ([], 1) := by
          obtain ⟨ys, xs, h1, _, _⟩ := HO.out
          have hb := oneE_bad_kind (us := l.map Ent.uid) (x := x) (by rw [HK.out]; exact hk6)
          have := onesE_bad (by rw [hb]; decide) (r := l.drop (k + 1)) h1
          rwa [take_drop_of Hx.out, hb] at this
        have Hbad := Lib.hid hbad
        clear hk6 hbad
        go_wp2_with (first | refine wpList_load_cells rfl 37 _ rfl b (o + k * 11) rfl Tryz.agg60 Tryz.size60 rfl Hca.out ?_)
        go_ret2
        rw [HC.out, if_neg Hlong.out, if_neg (fun h => h HN.out), Hbad.out, if_pos (by decide)]
        exact EntsErr.none (HXw.out.alloc _)
    · have hke : k = l.length := by omega
      subst hke
      obtain ⟨ys, xs, hcans, hown, hflat⟩ := HO.out
      rw [List.take_length] at hcans
      have Hc := Lib.hid hcans
      have Ho := Lib.hid hown
      have Hf := Lib.hid hflat
      clear hcans hown hflat HO
      go_wp2_with fail
      refine (round_ok S l _ wr (fun b hb => Nat.lt_of_lt_of_le (HS.out b hb) HXw.out.size) (HL'.out.alike (Alike.of_ext HXw.out HS.out)) hlen HP.out HN.out).mono ?_
      rintro e w2 ⟨r, rfl, hr, hx⟩
      have Hr := Lib.hid hr
      have HX3 := Lib.hid hx
      clear hr hx
      have hlen2 : ys.length ≤ LIM := by
        have := onesE_length (us := l.map Ent.uid) (l := l) (by rw [Hc.out])
        rw [Hc.out] at this
        rw [LIM_eq, this]; omega
      have HL2 := Lib.hid hlen2
      clear hlen2
      cases r with
      | true =>
        go_wp2_with fail
        go_ret2
        rw [HC.out, if_neg Hlong.out, if_neg (fun h => h HN.out), Hc.out, if_neg (by simp), if_pos (show Rounded l by simpa using Hr.out)]
        exact EntsErr.none (HXw.out.trans HX3.out)
      | false =>
        have hS3 : ∀ b, Made (w1.heap.size + 1) wr u5 b → b < w2.heap.size ∧ u5.ownBlock ≠ some b := fun b hb => ⟨Nat.lt_of_lt_of_le hb.2.1 HX3.out.size, hb.2.2⟩
        have hsort := entR.sort_ok Go.Proofs.Tryz.sortE 37 Tryz.agg60 Tryz.size60 cmpE GoodAt.cmpE 60 #[] Tryz.enter71 (Made (w1.heap.size + 1) wr u5) (w1.heap.size + 1) w2 u5 ys xs (fun w1 x y cx cy _ _ hx hy => byUid_ok _ x y w1 cx cy hx hy) hS3 (ownsRow_ext Ho.out HX3.out) (Hf.out.alike (Alike.of_ext HX3.out fun b hb => hb.2.1)) HL2.out
        have HSo := Lib.hid (show Calls Tryz.prog 59 #[u5, .func (.func 60) #[] #[]] w2 _ from hsort)
        clear hsort hS3
        go_wp2_with fail
        refine HSo.out.mono ?_
        rintro e w3 ⟨rfl, l', xs', hp, hs, ho', hf', hb', hd', hg'⟩
        have Hp := Lib.hid hp
        have Hs := Lib.hid hs
        have Ho' := Lib.hid ho'
        have Hf' := Lib.hid hf'
        have Hg' := Lib.hid hg'
        clear hp hs ho' hf' hb' hd' hg' HSo
        go_wp2_with fail
        go_ret2
        have hfin : l' = sortU cmpE ys := sortedE (by
          have := onesE_uids (us := l.map Ent.uid) (l := l) (by rw [Hc.out])
          rw [Hc.out] at this
          rw [this]; exact HN.out) Hp.out Hs.out
        rw [HC.out, if_neg Hlong.out, if_neg (fun h => h HN.out), Hc.out, if_neg (by simp), if_neg (show ¬ Rounded l by simpa using Hr.out), ← hfin]
        have hsz := HX1.out.size
        refine ⟨_, rfl, ⟨xs', ownsRow_base Ho'.out (by omega), Hf'.out.mono fun b hb => ⟨by have := hb.1; omega, Nat.lt_of_lt_of_le hb.2.1 (Nat.le_trans HX3.out.size Hg'.out.size), hb.2.2⟩⟩, ?_⟩
        exact ext_apart (HXw.out.trans HX3.out) Hg'.out fun b e => by have := ((ownsRow_ext Ho.out HX3.out).lt b e).1; omega
end Go.Proofs.YtjllolagcdjlnaaGreat

/-
  Entities one above the other: what is to be told of them. No program in sight. The conditions: none (definitions and lemmas).
-/
namespace Go.Proofs.YtjllolagcdjlnaaGreat
open Go.RowKit

def abc : ByteArray := ⟨#[97, 98, 99, 100, 101, 102, 103, 104, 105, 106, 107, 108]⟩
def cN (i : Nat) : ByteArray := abc.extract i (i + 1)
def tU : ByteArray := ⟨#[85]⟩
def tV : ByteArray := ⟨#[86]⟩
def tA : ByteArray := ⟨#[97]⟩
def uN (i : Nat) : Uid := (tU, cN i)
def recV : Val := .mk 6 false 0 empty empty empty [] []
theorem recV_canon : recV.canon = (recV, 0) := by
  have : recV.dep ≤ 50 := by simp [recV, Val.dep, Val.deps]
  unfold Val.canon
  rw [if_neg (by omega)]
  simp [recV, Val.can, Val.cans, record, sortU]
theorem recV_kind : recV.kind = 6 := rfl

theorem cN_inj : ∀ i, i < 12 → ∀ j, j < 12 → cN i = cN j → i = j := by decide +kernel
theorem cN_zero : cN 0 = tA := by decide +kernel
theorem cN_size : ∀ i, i < 12 → (cN i).size = 1 := by decide +kernel
theorem cN_least : ∀ j, j < 12 → cmpS (cN j) (cN 0) ≠ -1 := by decide +kernel
theorem uN_inj {i j : Nat} (hi : i < 12) (hj : j < 12) (h : uN i = uN j) : i = j := cN_inj i hi j hj (congrArg Prod.snd h)
theorem uN_fit {i : Nat} (hi : i < 12) : FitU (uN i) := by
  have h1 := cN_size i hi
  constructor
  · show tU.size ≤ maxLen
    rw [maxLen_eq]; decide
  · show (cN i).size ≤ maxLen
    rw [maxLen_eq, h1]; decide

def psN (k : Nat) (close missing : Bool) (i : Nat) : List Uid :=
  (if i + 1 < k then [uN (i + 1)] else if close then [(tU, tA)] else []) ++ if missing && i == 0 then [(tV, empty)] else []
def entN (k : Nat) (close missing : Bool) (i : Nat) : Ent := ⟨uN i, psN k close missing i, recV⟩
def esN (k : Nat) (close missing : Bool) : List Ent := (List.range k).map (entN k close missing)
theorem esN_length (k : Nat) (close missing : Bool) : (esN k close missing).length = k := by simp [esN]
theorem esN_get {k i : Nat} {close missing : Bool} (h : i < k) : (esN k close missing)[i]? = some (entN k close missing i) := by simp [esN, h]
theorem psN_length (k : Nat) (close missing : Bool) (i : Nat) : (psN k close missing i).length ≤ 2 := by
  unfold psN
  generalize (missing && i == 0) = b
  cases b <;> cases close <;> by_cases h : i + 1 < k <;> simp [h]

/-- the row turned -/
def turned (at' : Nat) (l : List Ent) : List Ent := l.drop at' ++ l.take at'
theorem turned_perm (n : Nat) (l : List Ent) : (turned n l).Perm l := by
  unfold turned
  exact (List.perm_append_comm).trans (by rw [List.take_append_drop])

section
variable {k : Nat} {close missing : Bool} {m : List Ent}
theorem mem_m (hm : m.Perm (esN k close missing)) {e : Ent} : e ∈ m ↔ ∃ i, i < k ∧ e = entN k close missing i := by
  rw [hm.mem_iff]
  simp only [esN, List.mem_map, List.mem_range]
  exact ⟨fun ⟨i, h1, h2⟩ => ⟨i, h1, h2.symm⟩, fun ⟨i, h1, h2⟩ => ⟨i, h1, h2.symm⟩⟩
theorem mem_u (hm : m.Perm (esN k close missing)) {u : Uid} : u ∈ m.map Ent.uid ↔ ∃ i, i < k ∧ u = uN i := by
  rw [List.mem_map]
  constructor
  · rintro ⟨e, he, rfl⟩
    obtain ⟨i, hi, rfl⟩ := (mem_m hm).1 he
    exact ⟨i, hi, rfl⟩
  · rintro ⟨i, hi, rfl⟩
    exact ⟨_, (mem_m hm).2 ⟨i, hi, rfl⟩, rfl⟩
theorem nodup_m (hk : k ≤ 12) (hm : m.Perm (esN k close missing)) : (m.map Ent.uid).Nodup := by
  rw [(hm.map Ent.uid).nodup_iff]
  simp only [esN, List.map_map]
  rw [List.Nodup, List.pairwise_map]
  refine List.Pairwise.imp_of_mem ?_ (List.nodup_range (n := k))
  intro a b ha hb hne h
  simp only [List.mem_range] at ha hb
  exact hne (uN_inj (by omega) (by omega) h)
theorem noV (hm : m.Perm (esN k close missing)) : (tV, empty) ∉ m.map Ent.uid := fun h => by
  obtain ⟨i, _, hu⟩ := (mem_u hm).1 h
  have : tV = tU := congrArg Prod.fst hu
  exact absurd this (by decide)

/-- one above the other, by number -/
theorem above_step (hk : k ≤ 12) (hm : m.Perm (esN k close missing)) {i j : Nat} (hi : i < k) (hj : j < k) : Above m (uN i) (uN j) ↔ (j = i + 1 ∨ (close = true ∧ i + 1 = k ∧ j = 0)) := by
  constructor
  · rintro ⟨e, he, hu, hp, _⟩
    obtain ⟨i', hi', rfl⟩ := (mem_m hm).1 he
    have : i' = i := uN_inj (by omega) (by omega) hu
    subst this
    simp only [entN, psN, List.mem_append] at hp
    rcases hp with hp | hp
    · split at hp
      · rename_i h
        simp at hp
        exact .inl (uN_inj (by omega) (by omega) hp)
      · split at hp
        · rename_i h1 h2
          simp at hp
          have h0 : uN j = uN 0 := by rw [hp]; unfold uN; rw [cN_zero]
          exact .inr ⟨h2, by omega, uN_inj (by omega) (by omega) h0⟩
        · simp at hp
    · split at hp
      · simp at hp
        have : tU = tV := congrArg Prod.fst hp
        exact absurd this (by decide)
      · simp at hp
  · intro h
    refine ⟨entN k close missing i, (mem_m hm).2 ⟨i, hi, rfl⟩, rfl, ?_, (mem_u hm).2 ⟨j, hj, rfl⟩⟩
    simp only [entN, psN, List.mem_append]
    rcases h with rfl | ⟨h1, h2, rfl⟩
    · left; rw [if_pos hj]; simp
    · left
      rw [if_neg (by omega), h1]
      simp [uN, cN_zero]
theorem rounded_m (hk : k ≤ 12) (h0 : 0 < k) (hm : m.Perm (esN k close missing)) : Rounded m ↔ close = true := by
  constructor
  · rintro ⟨u, hu, ha⟩
    by_cases hc : close = true
    · exact hc
    · exfalso
      have key : ∀ i, i < k → Acc (Above m) (uN i) := by
        intro i
        induction i using Nat.strongRecOn with
        | ind i ih =>
          intro hi
          refine ⟨_, fun v hv => ?_⟩
          have hv0 := hv
          obtain ⟨e, he, rfl, _⟩ := hv
          obtain ⟨j, hj, rfl⟩ := (mem_m hm).1 he
          rcases (above_step hk hm hj hi).1 hv0 with h | h
          · exact ih j (by omega) hj
          · exact absurd h.1 hc
      obtain ⟨i, hi, rfl⟩ := (mem_u hm).1 hu
      exact ha (key i hi)
  · intro hc
    refine ⟨uN 0, (mem_u hm).2 ⟨0, h0, rfl⟩, not_acc_of (S := fun u => ∃ i, i < k ∧ u = uN i) ?_ ⟨0, h0, rfl⟩⟩
    rintro u ⟨i, hi, rfl⟩
    by_cases hi0 : i = 0
    · subst hi0
      exact ⟨uN (k - 1), ⟨k - 1, by omega, rfl⟩, (above_step hk hm (by omega) hi).2 (.inr ⟨hc, by omega, rfl⟩)⟩
    · exact ⟨uN (i - 1), ⟨i - 1, by omega, rfl⟩, (above_step hk hm (by omega) hi).2 (.inl (by omega))⟩

theorem oneE_m (hk : k ≤ 12) (hm : m.Perm (esN k close missing)) {i : Nat} (hi : i < k) : (oneE (m.map Ent.uid) (entN k close missing i)).2 = if missing && i == 0 then 20 else 0 := by
  have hpar : ∀ p ∈ psN k close false i, (idx (m.map Ent.uid) p).isSome = true := fun p hp => by
    have hmem : p ∈ m.map Ent.uid := by
      refine (mem_u hm).2 ?_
      simp only [psN, List.mem_append] at hp
      rcases hp with hp | hp
      · split at hp
        · simp at hp; exact ⟨i + 1, by assumption, hp⟩
        · split at hp
          · simp at hp; exact ⟨0, by omega, by rw [hp]; unfold uN; rw [cN_zero]⟩
          · simp at hp
      · simp at hp
    obtain ⟨j, hj⟩ := idx_mem.1 hmem
    rw [hj]; rfl
  have hcan : (entN k close missing i).av.canon.2 = 0 := by show recV.canon.2 = 0; rw [recV_canon]
  cases hb : missing && i == 0 with
  | true =>
    rw [oneE_bad_parent rfl hcan]
    · rfl
    · refine List.any_eq_true.2 ⟨(tV, empty), ?_, ?_⟩
      · simp only [entN, psN, hb]; simp
      · have := idx_none.2 (noV hm)
        rw [this]; rfl
  | false =>
    have hps : psN k close missing i = psN k close false i := by simp only [psN, hb]; simp
    rw [oneE_good rfl hcan]
    · rfl
    · rw [List.any_eq_false]
      intro p hp
      rw [show (entN k close missing i).ps = psN k close missing i from rfl, hps] at hp
      rw [hpar p hp]; decide
theorem onesE_all {us : List Uid} : ∀ {l : List Ent}, (∀ e ∈ l, (oneE us e).2 = 0) → (onesE us l).2 = 0
  | [], _ => rfl
  | e :: r, h => by simp [onesE, h e (by simp), onesE_all (l := r) fun x hx => h x (by simp [hx])]
theorem onesE_some {us : List Uid} {c : Int} (hc : c ≠ 0) : ∀ {l : List Ent}, (∀ e ∈ l, (oneE us e).2 = 0 ∨ (oneE us e).2 = c) → (∃ e ∈ l, (oneE us e).2 = c) → (onesE us l).2 = c
  | [], _, h => by obtain ⟨e, he, _⟩ := h; simp at he
  | e :: r, h, hex => by
    by_cases h0 : (oneE us e).2 = 0
    · have : ∃ e ∈ r, (oneE us e).2 = c := by
        obtain ⟨x, hx, hxc⟩ := hex
        rcases List.mem_cons.1 hx with rfl | hx
        · exact absurd (hxc.symm.trans h0) hc
        · exact ⟨x, hx, hxc⟩
      have ih := onesE_some hc (l := r) (fun x hx => h x (by simp [hx])) this
      simp [onesE, h0, ih, hc]
    · rcases h e (by simp) with h1 | h1
      · exact absurd h1 h0
      · simp [onesE, h1, hc]

theorem canonE_missing (hk : k ≤ 12) (h0 : 0 < k) (hm : m.Perm (esN k close true)) : canonE m = ([], 20) := by
  have hl : m.length = k := by rw [hm.length_eq, esN_length]
  have h1 : (onesE (m.map Ent.uid) m).2 = 20 := onesE_some (by decide) (fun e he => by
    obtain ⟨i, hi, rfl⟩ := (mem_m hm).1 he
    rw [oneE_m hk hm hi]
    split
    · exact .inr rfl
    · exact .inl rfl) ⟨entN k close true 0, (mem_m hm).2 ⟨0, h0, rfl⟩, by rw [oneE_m hk hm h0]; rfl⟩
  unfold canonE
  rw [if_neg (by omega), if_neg (fun h => h (nodup_m hk hm)), h1, if_pos (by decide)]
theorem ones_good (hk : k ≤ 12) (hm : m.Perm (esN k close false)) : (onesE (m.map Ent.uid) m).2 = 0 := onesE_all fun e he => by
  obtain ⟨i, hi, rfl⟩ := (mem_m hm).1 he
  rw [oneE_m hk hm hi]; rfl
theorem canonE_closed (hk : k ≤ 12) (h0 : 0 < k) (hm : m.Perm (esN k true false)) : canonE m = ([], 21) := by
  have hl : m.length = k := by rw [hm.length_eq, esN_length]
  unfold canonE
  rw [if_neg (by omega), if_neg (fun h => h (nodup_m hk hm)), ones_good hk hm, if_neg (by decide), if_pos ((rounded_m hk h0 hm).2 rfl)]
theorem canonE_open (hk : k ≤ 12) (h0 : 0 < k) (hm : m.Perm (esN k false false)) : (canonE m).2 = 0 ∧ (canonE m).1.length = k ∧ ∃ e r, (canonE m).1 = e :: r ∧ e.uid = uN 0 := by
  have hl : m.length = k := by rw [hm.length_eq, esN_length]
  have hg := ones_good hk hm
  have hnr : ¬ Rounded m := fun h => by have := (rounded_m hk h0 hm).1 h; cases this
  have he : canonE m = (sortU cmpE (onesE (m.map Ent.uid) m).1, 0) := by
    unfold canonE
    rw [if_neg (by omega), if_neg (fun h => h (nodup_m hk hm)), hg, if_neg (by decide), if_neg hnr]
  rw [he]
  have hu := onesE_uids hg
  have hlen := onesE_length hg
  generalize (onesE (m.map Ent.uid) m).1 = ys at *
  have hny : (ys.map Ent.uid).Nodup := by rw [hu]; exact nodup_m hk hm
  have huq : ∀ x y : Ent, x ∈ ys → y ∈ ys → cmpE x y = 0 → x = y := fun x y hx hy h => by
    have he := ordU_eq h
    obtain ⟨i, hi⟩ := List.mem_iff_getElem?.1 hx
    obtain ⟨j, hj⟩ := List.mem_iff_getElem?.1 hy
    have h1 := idx_of_get hny (i := i) (u := x.uid) (by simp [hi])
    have h2 := idx_of_get hny (i := j) (u := x.uid) (by simp [hj, he])
    rw [h1] at h2
    obtain rfl := Option.some.inj h2
    rw [hi] at hj
    exact Option.some.inj hj
  have hst : Strict cmpE (sortU cmpE ys) := sortU_strict GoodAt.cmpE ys
  have hmem : ∀ y, y ∈ sortU cmpE ys ↔ y ∈ ys := sortU_mem huq fun _ h => h
  have hl1 : (sortU cmpE ys).length = k := by
    have h1 : (sortU cmpE ys).Nodup := hst.imp fun {a b} h e => by subst e; rw [(GoodAt.cmpE a).refl] at h; cases h
    have h2 : ys.Nodup := by
      refine (List.pairwise_map.1 hny).imp fun {a b} h e => h (by rw [e])
    have h3 := length_le_of_subset h1 fun x hx => (hmem x).1 hx
    have h4 := length_le_of_subset h2 fun x hx => (hmem x).2 hx
    omega
  refine ⟨rfl, hl1, ?_⟩
  cases hs : sortU cmpE ys with
  | nil => rw [hs] at hl1; simp at hl1; omega
  | cons e r =>
    refine ⟨e, r, rfl, ?_⟩
    have h0m : uN 0 ∈ ys.map Ent.uid := by rw [hu]; exact (mem_u hm).2 ⟨0, h0, rfl⟩
    obtain ⟨z, hz, hzu⟩ := List.mem_map.1 h0m
    have hz' : z ∈ e :: r := by rw [← hs]; exact (hmem z).2 hz
    have hem : e ∈ ys := (hmem e).1 (by rw [hs]; simp)
    have heu : e.uid ∈ ys.map Ent.uid := List.mem_map.2 ⟨e, hem, rfl⟩
    rw [hu] at heu
    obtain ⟨j, hj, heu⟩ := (mem_u hm).1 heu
    rcases List.mem_cons.1 hz' with rfl | hz'
    · exact hzu
    · exfalso
      rw [hs] at hst
      have h1 := (List.pairwise_cons.1 hst).1 z hz'
      unfold cmpE ordU lex2 at h1
      rw [heu, hzu] at h1
      simp only [uN] at h1
      simp only [cmpS_refl, if_true] at h1
      exact cN_least j (by omega) h1
end
end Go.Proofs.YtjllolagcdjlnaaGreat

/-
  Plain laws behind layer 3's laws: sets with the same members are the same; a union's members; a set of one; a record's attributes. No program in sight. The conditions: none (lemmas).
-/
namespace Go.Proofs.YtjllolagcdjlnaaGreat
open Go.RowKit

def Val.setV (l : List Val) : Val := .mk 5 false 0 empty empty empty l []

theorem Val.setV_dep (l : List Val) : (Val.setV l).dep = Val.deps l + 1 := by simp [Val.setV, Val.dep]
theorem Val.setV_can {l : List Val} (h : (Val.cans l).2 = 0) (hl : l.length ≤ 4096) : (Val.setV l).can = (Val.setV (sortU Val.ord (Val.cans l).1), 0) := by
  unfold Val.setV
  rw [Val.can5]
  simp [h, Nat.not_lt.2 hl]
theorem Val.setV_canon {l : List Val} (h : (Val.cans l).2 = 0) (hl : l.length ≤ 4096) (hd : Val.deps l + 1 ≤ 50) : (Val.setV l).canon = (Val.setV (sortU Val.ord (Val.cans l).1), 0) := by
  unfold Val.canon
  rw [if_neg (by rw [Val.setV_dep]; omega), Val.setV_can h hl]
theorem Val.setV_deep {l : List Val} (hd : 50 < Val.deps l + 1) : (Val.setV l).canon = (.zero, 11) := by
  unfold Val.canon
  rw [if_pos (by rw [Val.setV_dep]; exact hd)]

theorem cans_of_canon {l : List Val} (h : ∀ x ∈ l, x.canon.2 = 0) : Val.cans l = (l.map fun x => x.canon.1, 0) := by
  rw [Val.cans_eq fun y hy => (Val.canon_ok (h y hy)).2.2]
  congr 1
  exact List.map_congr_left fun y hy => by rw [(Val.canon_ok (h y hy)).2.1]
theorem canon_is {v : Val} (h : v.canon.2 = 0) : v.canon.1.Is := by
  obtain ⟨_, h2, h3⟩ := Val.canon_ok h
  rw [h2]; exact Val.can_is h3
theorem canon_again {v : Val} (h : v.canon.2 = 0) : v.canon.1.canon = (v.canon.1, 0) := by
  obtain ⟨h1, h2, h3⟩ := Val.canon_ok h
  have h4 := Val.can_dep h3
  rw [h2]
  unfold Val.canon
  rw [if_neg (by omega), Val.can_of_is (Val.can_is h3)]
theorem canon_dep {v : Val} (h : v.canon.2 = 0) : v.canon.1.dep = v.dep ∧ v.dep ≤ 50 := by
  obtain ⟨h1, h2, h3⟩ := Val.canon_ok h
  rw [h2]; exact ⟨Val.can_dep h3, h1⟩
theorem sort_mem {l : List Val} (h : ∀ x ∈ l, x.Is) (y : Val) : y ∈ sortU Val.ord l ↔ y ∈ l := sortU_mem (P := Val.Is) (fun _ _ hx hy h0 => Val.eq_ord hx hy h0) h y
theorem holds_mem {l : List Val} {x : Val} (hl : ∀ y ∈ l, y.Is) (hx : x.Is) : (Val.setV (sortU Val.ord l)).holds x = true ↔ x ∈ l := by
  unfold Val.holds Val.setV
  simp only [Val.kind, Val.items]
  simp only [beq_self_eq_true, Bool.true_and, List.any_eq_true, beq_iff_eq]
  constructor
  · rintro ⟨y, hy, h0⟩
    have h1 := (sort_mem hl y).1 hy
    rw [← Val.eq_ord (hl y h1) hx h0]; exact h1
  · intro h
    exact ⟨x, (sort_mem hl x).2 h, (Val.goodAt x).refl⟩

/-- sets with the same members -/
theorem laws_sets {a b c : Val} (ha : a.canon.2 = 0) (hb : b.canon.2 = 0) (hc : c.canon.2 = 0) :
    ((Val.setV [a, b, c, a]).canon.2 = 11 ∧ (Val.setV [c, a, b]).canon.2 = 11) ∨
    ((Val.setV [a, b, c, a]).canon.2 = 0 ∧ (Val.setV [c, a, b]).canon.2 = 0 ∧ (Val.setV [a, b, c, a]).canon.1 = (Val.setV [c, a, b]).canon.1 ∧ (Val.setV [a, b, c, a]).canon.1.holds b.canon.1 = true) := by
  have hd : Val.deps [a, b, c, a] = Val.deps [c, a, b] := by simp only [Val.deps]; omega
  have h1 : ∀ x ∈ [a, b, c, a], x.canon.2 = 0 := by simp [ha, hb, hc]
  have h2 : ∀ x ∈ [c, a, b], x.canon.2 = 0 := by simp [ha, hb, hc]
  by_cases hdd : 50 < Val.deps [a, b, c, a] + 1
  · exact .inl ⟨by rw [Val.setV_deep hdd], by rw [Val.setV_deep (by rw [← hd]; exact hdd)]⟩
  · have e1 := cans_of_canon h1
    have e2 := cans_of_canon h2
    have i1 : ∀ x ∈ [a, b, c, a].map (fun x => x.canon.1), x.Is := fun x hx => by
      obtain ⟨y, hy, rfl⟩ := List.mem_map.1 hx; exact canon_is (h1 y hy)
    have i2 : ∀ x ∈ [c, a, b].map (fun x => x.canon.1), x.Is := fun x hx => by
      obtain ⟨y, hy, rfl⟩ := List.mem_map.1 hx; exact canon_is (h2 y hy)
    have c1 := Val.setV_canon (l := [a, b, c, a]) (by rw [e1]) (by simp) (by omega)
    have c2 := Val.setV_canon (l := [c, a, b]) (by rw [e2]) (by simp) (by rw [← hd]; omega)
    rw [e1] at c1
    rw [e2] at c2
    rw [c1, c2]
    have hs : sortU Val.ord ([a, b, c, a].map fun x => x.canon.1) = sortU Val.ord ([c, a, b].map fun x => x.canon.1) := by
      refine strict_unique Val.goodAt (sortU_strict Val.goodAt _) (sortU_strict Val.goodAt _) fun x => ?_
      rw [sort_mem i1, sort_mem i2]
      simp only [List.map_cons, List.map_nil, List.mem_cons, List.not_mem_nil, or_false]
      constructor
      · rintro (h | h | h | h)
        · exact .inr (.inl h)
        · exact .inr (.inr h)
        · exact .inl h
        · exact .inr (.inl h)
      · rintro (h | h | h)
        · exact .inr (.inr (.inl h))
        · exact .inl h
        · exact .inr (.inl h)
    refine .inr ⟨rfl, rfl, by rw [hs], ?_⟩
    exact (holds_mem i1 (canon_is hb)).2 (by simp)

/-- the order of three -/
theorem laws_order (k l m : Val) : k.ord l = -(l.ord k) ∧ (k.ord l ≤ 0 → l.ord m ≤ 0 → k.ord m ≤ 0) := by
  refine ⟨(Val.goodAt l).turn k, fun h1 h2 => ?_⟩
  have hr := (Val.goodAt k).range l
  by_cases h0 : k.ord l = 0
  · rw [← (Val.goodAt k).cong l m h0]; exact h2
  · have := (Val.goodAt k).less l m (by omega) h2; omega
theorem laws_same {k l : Val} (hk : k.Is) (hl : l.Is) : (k.ord l == 0) = eqB k l := by
  by_cases h : k = l
  · subst h
    rw [eqB_true.2 rfl, (Val.goodAt k).refl]; rfl
  · rw [eqB_false.2 h, beq_eq_false_iff_ne]
    exact fun h0 => h (Val.eq_ord hk hl h0)

theorem length_le_of_nodup : ∀ {l m : List Val}, l.Nodup → (∀ x ∈ l, x ∈ m) → l.length ≤ m.length
  | [], _, _, _ => by simp
  | x :: r, m, hn, h => by
    obtain ⟨h1, h2⟩ := List.nodup_cons.1 hn
    obtain ⟨s, t, rfl⟩ := List.append_of_mem (h x (by simp))
    have := length_le_of_nodup (l := r) (m := s ++ t) h2 fun y hy => by
      have h3 := h y (by simp [hy])
      rw [List.mem_append, List.mem_cons] at h3
      rw [List.mem_append]
      rcases h3 with h3 | h3 | h3
      · exact .inl h3
      · subst h3; exact absurd hy h1
      · exact .inr h3
    simp at this ⊢; omega

/-- unions -/
theorem unions {a b : List Val} {y : Val} (ha : (Val.setV a).canon.2 = 0) (hb : (Val.setV b).canon.2 = 0) (hy : y.Is) (hla : a.length ≤ 10) (hlb : b.length ≤ 10) :
    (Val.setV (a ++ b)).canon.2 = 0 ∧ (Val.setV (a ++ b)).canon.1.holds y = ((Val.setV a).canon.1.holds y || (Val.setV b).canon.1.holds y) ∧
      (Val.setV (a ++ b)).canon.1.items.length ≤ (Val.setV a).canon.1.items.length + (Val.setV b).canon.1.items.length := by
  obtain ⟨d1, e1, z1⟩ := Val.canon_ok ha
  obtain ⟨d2, e2, z2⟩ := Val.canon_ok hb
  rw [Val.setV_dep] at d1 d2
  have c0 : ∀ l : List Val, (Val.setV l).can.2 = 0 → (Val.cans l).2 = 0 ∧ l.length ≤ 4096 := fun l h => by
    unfold Val.setV at h
    rw [Val.can5] at h
    by_cases h1 : (Val.cans l).2 ≠ 0
    · rw [if_pos h1] at h; exact absurd h h1
    · rw [if_neg h1] at h
      by_cases h2 : 4096 < l.length
      · rw [if_pos h2] at h; cases h
      · exact ⟨by simpa using h1, by omega⟩
  obtain ⟨q1, _⟩ := c0 a z1
  obtain ⟨q2, _⟩ := c0 b z2
  have m1 := fun y hy => (Val.cans_ok_mem q1 y hy).1
  have m2 := fun y hy => (Val.cans_ok_mem q2 y hy).1
  have m3 : ∀ y ∈ a ++ b, y.can.2 = 0 := fun y hy => by
    rcases List.mem_append.1 hy with h | h
    · exact m1 y h
    · exact m2 y h
  have r1 := Val.cans_eq m1
  have r2 := Val.cans_eq m2
  have r3 := Val.cans_eq m3
  have hdd : Val.deps (a ++ b) + 1 ≤ 50 := by
    have : Val.deps (a ++ b) ≤ 49 := Val.deps_le fun x hx => by
      rcases List.mem_append.1 hx with h | h
      · have := Val.deps_mem h; omega
      · have := Val.deps_mem h; omega
    omega
  have s1 := Val.setV_canon (l := a) (by rw [r1]) (by omega) (by omega)
  have s2 := Val.setV_canon (l := b) (by rw [r2]) (by omega) (by omega)
  have s3 := Val.setV_canon (l := a ++ b) (by rw [r3]) (by simp; omega) hdd
  rw [r1] at s1
  rw [r2] at s2
  rw [r3] at s3
  have i1 : ∀ x ∈ a.map (fun x => x.can.1), x.Is := fun x hx => by
    obtain ⟨y, hy, rfl⟩ := List.mem_map.1 hx; exact Val.can_is (m1 y hy)
  have i2 : ∀ x ∈ b.map (fun x => x.can.1), x.Is := fun x hx => by
    obtain ⟨y, hy, rfl⟩ := List.mem_map.1 hx; exact Val.can_is (m2 y hy)
  have i3 : ∀ x ∈ (a ++ b).map (fun x => x.can.1), x.Is := fun x hx => by
    obtain ⟨y, hy, rfl⟩ := List.mem_map.1 hx; exact Val.can_is (m3 y hy)
  rw [s1, s2, s3]
  refine ⟨rfl, ?_, ?_⟩
  · show (Val.setV (sortU Val.ord ((a ++ b).map fun x => x.can.1))).holds y = ((Val.setV (sortU Val.ord (a.map fun x => x.can.1))).holds y || (Val.setV (sortU Val.ord (b.map fun x => x.can.1))).holds y)
    rw [Bool.eq_iff_iff, Bool.or_eq_true, holds_mem i1 hy, holds_mem i2 hy, holds_mem i3 hy, List.map_append, List.mem_append]
  · show (sortU Val.ord ((a ++ b).map fun x => x.can.1)).length ≤ (sortU Val.ord (a.map fun x => x.can.1)).length + (sortU Val.ord (b.map fun x => x.can.1)).length
    rw [← List.length_append]
    refine length_le_of_nodup ?_ fun x hx => ?_
    · rw [List.nodup_iff_pairwise_ne]
      refine (sortU_strict Val.goodAt _).imp fun {p q} h e => ?_
      subst e
      rw [(Val.goodAt p).refl] at h; cases h
    · rw [sort_mem i3, List.map_append, List.mem_append] at hx
      rw [List.mem_append, sort_mem i1, sort_mem i2]
      exact hx
/-- what is wrong with a part is wrong with the union -/
theorem unions_bad {a b : List Val} (h : (Val.setV a).canon.2 ≠ 0 ∨ (Val.setV b).canon.2 ≠ 0) (hla : a.length ≤ 10) (hlb : b.length ≤ 10) : (Val.setV (a ++ b)).canon.2 ≠ 0 := fun h0 => by
  obtain ⟨d, e, z⟩ := Val.canon_ok h0
  rw [Val.setV_dep] at d
  have hm : (Val.cans (a ++ b)).2 = 0 := by
    unfold Val.setV at z
    rw [Val.can5] at z
    by_cases h1 : (Val.cans (a ++ b)).2 ≠ 0
    · rw [if_pos h1] at z; exact absurd z h1
    · simpa using h1
  have key : ∀ l : List Val, (∀ x ∈ l, x ∈ a ++ b) → l.length ≤ 10 → (Val.setV l).canon.2 = 0 := fun l hl hll => by
    have r := Val.cans_eq (l := l) fun y hy => (Val.cans_ok_mem hm y (hl y hy)).1
    have : Val.deps l ≤ Val.deps (a ++ b) := Val.deps_le fun x hx => Val.deps_mem (hl x hx)
    rw [Val.setV_canon (by rw [r]) (by omega) (by omega)]
  rcases h with h | h
  · exact h (key a (fun x hx => by simp [hx]) hla)
  · exact h (key b (fun x hx => by simp [hx]) hlb)
end Go.Proofs.YtjllolagcdjlnaaGreat

/-
  Entities as they must be: their order does not matter, nor do their parents'; told again they stay as they are. No program in sight. The conditions: none (definitions and lemmas).
-/
namespace Go.Proofs.YtjllolagcdjlnaaGreat

/-- one that is as it should be -/
def GoodE (us : List Uid) (e : Ent) : Prop := e.av.kind = 6 ∧ e.av.canon.2 = 0 ∧ ∀ p ∈ e.ps, p ∈ us
def putE (e : Ent) : Ent := ⟨e.uid, sortU ordU e.ps, e.av.canon.1⟩
theorem oneE_of {us : List Uid} {e : Ent} (h : GoodE us e) : oneE us e = (putE e, 0) := by
  refine oneE_good h.1 h.2.1 (List.any_eq_false.2 fun p hp => ?_)
  obtain ⟨i, hi⟩ := idx_mem.1 (h.2.2 p hp)
  rw [hi]; simp
theorem canon_err_ne {e : Ent} (h : e.av.canon.2 ≠ 0) {us : List Uid} : (oneE us e).2 ≠ 0 := by
  by_cases hk : e.av.kind = 6
  · rw [oneE_bad_value hk h]; exact h
  · rw [oneE_bad_kind hk]; decide
theorem oneE_iff {us : List Uid} {e : Ent} : (oneE us e).2 = 0 ↔ GoodE us e := by
  constructor
  · intro h
    by_cases hk : e.av.kind = 6
    · by_cases hc : e.av.canon.2 = 0
      · refine ⟨hk, hc, fun p hp => ?_⟩
        by_cases hu : p ∈ us
        · exact hu
        · have := idx_none.2 hu
          rw [oneE_bad_parent hk hc (List.any_eq_true.2 ⟨p, hp, by rw [this]; rfl⟩)] at h
          cases h
      · exact absurd h (canon_err_ne hc)
    · rw [oneE_bad_kind hk] at h; cases h
  · intro h; rw [oneE_of h]
theorem onesE_of {us : List Uid} : ∀ {l : List Ent}, (∀ e ∈ l, GoodE us e) → onesE us l = (l.map putE, 0)
  | [], _ => rfl
  | e :: r, h => by
    have h1 := oneE_of (h e (by simp))
    have h2 := onesE_of (l := r) fun x hx => h x (by simp [hx])
    simp [onesE, h1, h2]
theorem onesE_iff {us : List Uid} : ∀ {l : List Ent}, (onesE us l).2 = 0 ↔ ∀ e ∈ l, GoodE us e
  | [] => by simp [onesE]
  | e :: r => by
    constructor
    · intro h x hx
      simp only [onesE] at h
      split at h
      · rename_i h1; exact absurd h h1
      · rename_i h1
        split at h
        · rename_i h2; exact absurd h h2
        · rename_i h2
          simp only [ne_eq, Decidable.not_not] at h1 h2
          rcases List.mem_cons.1 hx with rfl | hx
          · exact oneE_iff.1 h1
          · exact onesE_iff.1 h2 x hx
    · intro h; rw [onesE_of h]

/-- entities that are not refused -/
structure Good (l : List Ent) : Prop where
  len : l.length ≤ 4096
  names : (l.map Ent.uid).Nodup
  ones : ∀ e ∈ l, GoodE (l.map Ent.uid) e
  round : ¬ Rounded l
theorem canonE_of {l : List Ent} (h : Good l) : canonE l = (sortU cmpE (l.map putE), 0) := by
  unfold canonE
  rw [if_neg (by have := h.len; omega), if_neg (fun k => k h.names), onesE_of h.ones, if_neg (by simp), if_neg h.round]
theorem canonE_iff {l : List Ent} : (canonE l).2 = 0 ↔ Good l := by
  constructor
  · intro h
    unfold canonE at h
    split at h
    · cases h
    · split at h
      · cases h
      · split at h
        · rename_i h3; exact absurd h h3
        · split at h
          · cases h
          · rename_i h1 h2 h3 h4
            exact ⟨by omega, Classical.not_not.1 h2, onesE_iff.1 (Classical.not_not.1 h3), h4⟩
  · intro h; rw [canonE_of h]
theorem canonE_bad {l : List Ent} (h : ¬ Good l) : (canonE l).1 = [] := by
  unfold canonE
  split
  · rfl
  · split
    · rfl
    · split
      · rfl
      · split
        · rfl
        · rename_i h1 h2 h3 h4
          exact absurd ⟨by omega, Classical.not_not.1 h2, onesE_iff.1 (Classical.not_not.1 h3), h4⟩ h

/-! ### the same, in another order -/
structure Alter (l m : List Ent) : Prop where
  len : m.length = l.length
  names : (m.map Ent.uid).Perm (l.map Ent.uid)
  there : ∀ e ∈ l, ∃ f ∈ m, f.uid = e.uid ∧ f.av = e.av ∧ ∀ p, p ∈ f.ps ↔ p ∈ e.ps
  back : ∀ f ∈ m, ∃ e ∈ l, f.uid = e.uid ∧ f.av = e.av ∧ ∀ p, p ∈ f.ps ↔ p ∈ e.ps
theorem Alter.symm {l m : List Ent} (h : Alter l m) : Alter m l :=
  ⟨h.len.symm, h.names.symm, fun f hf => let ⟨e, he, h1, h2, h3⟩ := h.back f hf; ⟨e, he, h1.symm, h2.symm, fun p => (h3 p).symm⟩, fun e he => let ⟨f, hf, h1, h2, h3⟩ := h.there e he; ⟨f, hf, h1.symm, h2.symm, fun p => (h3 p).symm⟩⟩
theorem Alter.good {l m : List Ent} (h : Alter l m) (hl : Good l) : Good m := by
  refine ⟨by rw [h.len]; exact hl.len, h.names.nodup_iff.2 hl.names, fun f hf => ?_, fun hr => hl.round (Rounded.congr (fun f hf => ?_) hr)⟩
  · obtain ⟨e, he, h1, h2, h3⟩ := h.back f hf
    obtain ⟨k1, k2, k3⟩ := hl.ones e he
    exact ⟨by rw [h2]; exact k1, by rw [h2]; exact k2, fun p hp => h.names.mem_iff.2 (k3 p ((h3 p).1 hp))⟩
  · obtain ⟨e, he, h1, _, h3⟩ := h.back f hf
    exact ⟨e, he, h1.symm, fun p hp => (h3 p).1 hp⟩
theorem sortU_names_mem {l : List Uid} {p : Uid} : p ∈ sortU ordU l ↔ p ∈ l := sortU_mem (P := fun _ => True) (fun _ _ _ _ h => ordU_eq h) (fun _ _ => trivial) p
theorem sortU_names {a b : List Uid} (h : ∀ p, p ∈ a ↔ p ∈ b) : sortU ordU a = sortU ordU b :=
  strict_unique GoodAt.ordU (sortU_strict GoodAt.ordU a) (sortU_strict GoodAt.ordU b) fun p => by rw [sortU_names_mem, sortU_names_mem, h]
theorem putE_uids (l : List Ent) : (l.map putE).map Ent.uid = l.map Ent.uid := by
  rw [List.map_map]; rfl
theorem byUid_eq {l : List Ent} (hn : (l.map Ent.uid).Nodup) {x y : Ent} (hx : x ∈ l) (hy : y ∈ l) (h : cmpE x y = 0) : x = y := by
  have he := ordU_eq h
  obtain ⟨i, hi⟩ := List.mem_iff_getElem?.1 hx
  obtain ⟨j, hj⟩ := List.mem_iff_getElem?.1 hy
  have h1 := idx_of_get hn (i := i) (u := x.uid) (by simp [hi])
  have h2 := idx_of_get hn (i := j) (u := x.uid) (by simp [hj, he])
  rw [h1] at h2
  obtain rfl := Option.some.inj h2
  rw [hi] at hj
  exact Option.some.inj hj
theorem sortE_mem {l : List Ent} (hn : (l.map Ent.uid).Nodup) (x : Ent) : x ∈ sortU cmpE l ↔ x ∈ l := sortU_mem (P := fun x => x ∈ l) (fun _ _ hx hy h => byUid_eq hn hx hy h) (fun _ h => h) x
theorem Alter.same {l m : List Ent} (h : Alter l m) (hl : Good l) : (canonE m).1 = (canonE l).1 := by
  have hm := h.good hl
  rw [canonE_of hl, canonE_of hm]
  have n1 : ((l.map putE).map Ent.uid).Nodup := by rw [putE_uids]; exact hl.names
  have n2 : ((m.map putE).map Ent.uid).Nodup := by rw [putE_uids]; exact hm.names
  refine strict_unique GoodAt.cmpE (sortU_strict GoodAt.cmpE _) (sortU_strict GoodAt.cmpE _) fun x => ?_
  rw [sortE_mem n1, sortE_mem n2, List.mem_map, List.mem_map]
  have key : ∀ {e f : Ent}, f.uid = e.uid → f.av = e.av → (∀ p, p ∈ f.ps ↔ p ∈ e.ps) → putE f = putE e := fun {e f} h1 h2 h3 => by
    unfold putE
    rw [h1, h2, sortU_names h3]
  constructor
  · rintro ⟨f, hf, rfl⟩
    obtain ⟨e, he, h1, h2, h3⟩ := h.back f hf
    exact ⟨e, he, (key h1 h2 h3).symm⟩
  · rintro ⟨e, he, rfl⟩
    obtain ⟨f, hf, h1, h2, h3⟩ := h.there e he
    exact ⟨f, hf, key h1 h2 h3⟩
theorem Alter.iff {l m : List Ent} (h : Alter l m) : (canonE l).2 = 0 ↔ (canonE m).2 = 0 := by
  rw [canonE_iff, canonE_iff]
  exact ⟨h.good, h.symm.good⟩

/-! ### told again -/
theorem canon_kind {v : Val} (hk : v.kind = 6) (h : v.canon.2 = 0) : v.canon.1.kind = 6 := by
  obtain ⟨_, h2, h3⟩ := Val.canon_ok h
  rw [h2]
  rw [Val.can_def] at h3 ⊢
  rw [if_neg (by omega), if_neg (by omega), if_neg (by omega), if_neg (by omega), if_neg (by omega), if_pos hk] at h3 ⊢
  split at h3
  · cases h3
  · rename_i g1
    rw [if_neg g1]
    split at h3
    · rename_i g2; exact absurd h3 g2
    · rename_i g2
      rw [if_neg g2]
      split at h3
      · cases h3
      · rename_i g3
        rw [if_neg g3]
        unfold record at h3 ⊢
        split at h3
        · rename_i g4; rw [if_pos g4]; rfl
        · cases h3
theorem canonE_mem {l : List Ent} (h : Good l) (x : Ent) : x ∈ (canonE l).1 ↔ ∃ e ∈ l, putE e = x := by
  have n1 : ((l.map putE).map Ent.uid).Nodup := by rw [putE_uids]; exact h.names
  rw [canonE_of h, sortE_mem n1, List.mem_map]
theorem nodup_of_map {α β : Type} (f : α → β) {l : List α} (h : (l.map f).Nodup) : l.Nodup :=
  (List.pairwise_map.1 h).imp fun {a b} h e => h (by rw [e])
theorem canonE_perm {l : List Ent} (h : Good l) : (canonE l).1.Perm (l.map putE) := by
  have n1 : ((l.map putE).map Ent.uid).Nodup := by rw [putE_uids]; exact h.names
  rw [canonE_of h]
  refine (List.perm_ext_iff_of_nodup ?_ (nodup_of_map _ n1)).2 fun x => sortE_mem n1 x
  exact (sortU_strict GoodAt.cmpE _).imp fun {a b} h e => by subst e; rw [(GoodAt.cmpE a).refl] at h; cases h
theorem canonE_names {l : List Ent} (h : Good l) : ((canonE l).1.map Ent.uid).Perm (l.map Ent.uid) := by
  rw [← putE_uids l]
  exact (canonE_perm h).map _
theorem canonE_length {l : List Ent} (h : Good l) : (canonE l).1.length = l.length := by
  rw [(canonE_perm h).length_eq, List.length_map]
theorem canonE_ones {l : List Ent} (h : Good l) {us : List Uid} (hu : ∀ p, p ∈ us ↔ p ∈ l.map Ent.uid) {x : Ent} (hx : x ∈ (canonE l).1) : GoodE us x ∧ putE x = x := by
  obtain ⟨e, he, rfl⟩ := (canonE_mem h x).1 hx
  obtain ⟨h1, h2, h3⟩ := h.ones e he
  refine ⟨⟨canon_kind h1 h2, ?_, fun p hp => (hu p).2 (h3 p (sortU_names_mem.1 hp))⟩, ?_⟩
  · show e.av.canon.1.canon.2 = 0
    rw [canon_again h2]
  · show Ent.mk e.uid (sortU ordU (sortU ordU e.ps)) e.av.canon.1.canon.1 = ⟨e.uid, sortU ordU e.ps, e.av.canon.1⟩
    rw [canon_again h2, sortU_names fun p => sortU_names_mem]
theorem canonE_again {l : List Ent} (h : Good l) : canonE (canonE l).1 = ((canonE l).1, 0) := by
  have hn := canonE_names h
  have hg : Good (canonE l).1 := by
    refine ⟨by rw [canonE_length h]; exact h.len, hn.nodup_iff.2 h.names, fun x hx => (canonE_ones h (fun p => hn.mem_iff) hx).1, fun hr => h.round (Rounded.congr (fun x hx => ?_) hr)⟩
    obtain ⟨e, he, rfl⟩ := (canonE_mem h x).1 hx
    exact ⟨e, he, rfl, fun p hp => sortU_names_mem.1 hp⟩
  rw [canonE_of hg]
  have hm : (canonE l).1.map putE = (canonE l).1 := by
    conv => rhs; rw [← List.map_id (canonE l).1]
    exact List.map_congr_left fun x hx => (canonE_ones h (fun p => Iff.rfl) hx).2
  rw [hm]
  congr 1
  refine sortU_of_strict GoodAt.cmpE (P := fun x => x ∈ (canonE l).1) (fun _ _ hx hy h0 => byUid_eq hg.names hx hy h0) (fun _ h => h) ?_
  rw [canonE_of h]
  exact sortU_strict GoodAt.cmpE _
/-- what a row of entities as they must be measures -/
theorem canonE_small {l : List Ent} (h : Good l) {M D : Nat} (hp : ∀ e ∈ l, e.ps.length ≤ M) (hd : ∀ e ∈ l, e.av.dep ≤ D) : (∀ e ∈ (canonE l).1, e.ps.length ≤ M) ∧ (∀ e ∈ (canonE l).1, e.av.dep ≤ D) := by
  constructor <;> intro x hx <;> obtain ⟨e, he, rfl⟩ := (canonE_mem h x).1 hx
  · exact Nat.le_trans (sortU_length e.ps) (hp e he)
  · show e.av.canon.1.dep ≤ D
    rw [(canon_dep (h.ones e he).2.1).1]; exact hd e he

/-- turned round, and so are the parents -/
def backE (l : List Ent) : List Ent := l.reverse.map fun e => ⟨e.uid, e.ps.reverse, e.av⟩
theorem backE_alter (l : List Ent) : Alter l (backE l) := by
  refine ⟨by simp [backE], ?_, fun e he => ⟨⟨e.uid, e.ps.reverse, e.av⟩, ?_, rfl, rfl, fun p => List.mem_reverse⟩, fun f hf => ?_⟩
  · unfold backE
    rw [List.map_map]
    exact ((List.reverse_perm l).map Ent.uid)
  · exact List.mem_map.2 ⟨e, List.mem_reverse.2 he, rfl⟩
  · obtain ⟨e, he, rfl⟩ := List.mem_map.1 hf
    exact ⟨e, List.mem_reverse.1 he, rfl, rfl, fun p => List.mem_reverse⟩
theorem backE_back (l : List Ent) : backE (backE l) = l := by
  unfold backE
  rw [← List.map_reverse, List.reverse_reverse, List.map_map]
  conv => rhs; rw [← List.map_id l]
  refine List.map_congr_left fun e _ => ?_
  simp
theorem backE_small {l : List Ent} {M D : Nat} (hp : ∀ e ∈ l, e.ps.length ≤ M) (hd : ∀ e ∈ l, e.av.dep ≤ D) : (∀ e ∈ backE l, e.ps.length ≤ M) ∧ (∀ e ∈ backE l, e.av.dep ≤ D) := by
  constructor <;> intro x hx <;> obtain ⟨e, he, rfl⟩ := List.mem_map.1 hx <;> rw [List.mem_reverse] at he
  · simpa using hp e he
  · exact hd e he
end Go.Proofs.YtjllolagcdjlnaaGreat

/-
  What layer 5's awake comes to: true. The conditions: none.
-/
namespace Go.Proofs.YtjllolagcdjlnaaGreat
open Go.RowKit

def tB : ByteArray := ⟨#[98]⟩
def uA : Uid := (tU, tA)
def uB : Uid := (tU, tB)
theorem uN0 : uN 0 = uA := by unfold uN uA; rw [cN_zero]
theorem uN1 : uN 1 = uB := by unfold uN uB; rw [show cN 1 = tB by decide +kernel]
theorem es2 : esN 2 true false = [⟨uA, [uB], recV⟩, ⟨uB, [uA], recV⟩] := by
  have : esN 2 true false = [entN 2 true false 0, entN 2 true false 1] := rfl
  rw [this]
  simp only [entN, psN]
  rw [uN0]
  simp [uN1, uA]
theorem canon_L1 : canonE [⟨uA, [uB], recV⟩, ⟨uB, [uA], recV⟩] = ([], 21) := by
  rw [← es2]
  exact canonE_closed (by decide) (by decide) (List.Perm.refl _)
theorem ordAB : ordU uA uB = -1 := by decide +kernel
theorem ordBA : ordU uB uA = 1 := by decide +kernel
theorem ordBB : ordU uB uB = 0 := by decide +kernel
theorem ab_ne : uA ≠ uB := fun h => by have := ordAB; rw [h, ordBB] at this; cases this
theorem canon_L2 : canonE [⟨uB, [], recV⟩, ⟨uA, [uB, uB], recV⟩] = ([⟨uA, [uB], recV⟩, ⟨uB, [], recV⟩], 0) := by
  have hne := ab_ne
  have h1 : ([⟨uB, [], recV⟩, ⟨uA, [uB, uB], recV⟩] : List Ent).map Ent.uid = [uB, uA] := rfl
  have hn : ([uB, uA] : List Uid).Nodup := by simp [Ne.symm hne]
  have hi : idx [uB, uA] uB = some 0 := by simp [idx]
  have hs : sortU ordU [uB, uB] = [uB] := by simp [sortU, ins, ordBB]
  have ho : onesE [uB, uA] [⟨uB, [], recV⟩, ⟨uA, [uB, uB], recV⟩] = ([⟨uB, [], recV⟩, ⟨uA, [uB], recV⟩], 0) := by
    have e1 : oneE [uB, uA] ⟨uB, [], recV⟩ = (⟨uB, [], recV⟩, 0) := by
      rw [oneE_good (by rfl) (by show recV.canon.2 = 0; rw [recV_canon]) (by rfl)]
      show ((⟨uB, sortU ordU [], recV.canon.1⟩ : Ent), (0 : Int)) = _
      rw [recV_canon]; rfl
    have e2 : oneE [uB, uA] ⟨uA, [uB, uB], recV⟩ = (⟨uA, [uB], recV⟩, 0) := by
      rw [oneE_good (by rfl) (by show recV.canon.2 = 0; rw [recV_canon]) (by simp [hi])]
      show ((⟨uA, sortU ordU [uB, uB], recV.canon.1⟩ : Ent), (0 : Int)) = _
      rw [recV_canon, hs]
    simp [onesE, e1, e2]
  have hr : ¬ Rounded [⟨uB, [], recV⟩, ⟨uA, [uB, uB], recV⟩] := by
    have hab : ∀ u v, Above [⟨uB, [], recV⟩, ⟨uA, [uB, uB], recV⟩] u v → u = uA ∧ v = uB := by
      rintro u v ⟨e, he, rfl, hp, _⟩
      simp only [List.mem_cons, List.mem_nil_iff, or_false] at he
      rcases he with rfl | rfl
      · simp at hp
      · simp at hp; exact ⟨rfl, hp⟩
    have ha : Acc (Above [⟨uB, [], recV⟩, ⟨uA, [uB, uB], recV⟩]) uA := ⟨_, fun v hv => absurd (hab v uA hv).2 hne⟩
    rintro ⟨u, hu, hacc⟩
    rw [h1] at hu
    simp only [List.mem_cons, List.mem_nil_iff, or_false] at hu
    rcases hu with rfl | rfl
    · exact hacc ⟨_, fun v hv => by rw [(hab v _ hv).1]; exact ha⟩
    · exact hacc ha
  unfold canonE
  rw [h1, if_neg (by simp), if_neg (fun h => h hn), ho, if_neg (by simp), if_neg hr]
  simp [sortU, ins, cmpE, ordBA]
theorem round_L3 : Rounded [⟨uA, [uA], .zero⟩] :=
  ⟨uA, by simp, not_acc_of (S := fun u => u = uA) (fun k hk => ⟨uA, rfl, ⟨_, List.mem_singleton.2 rfl, rfl, by simp [hk], by simp [hk]⟩⟩) rfl⟩

theorem flat_block {α : Type} {R : Rep α} {S : Nat → Prop} {w : World} {l : List α} {xs : List Value} {b : Nat} {T : TypeId} {fz : Nat × Nat} (h : w.heap[b]? = some (.cells xs.toArray T fz)) (hf : R.Flat S w l xs) (hb : S b) (hl : l.length ≤ LIM) {n cap : Nat} (hn : n = l.length) (hc : l.length ≤ cap) (hcm : cap ≤ maxLen) :
    R.RowsAt S w l (.slice (some ⟨b, 0, none⟩) n cap) := by
  subst hn
  exact ⟨_, cap, rfl, ⟨hl, hc, hcm⟩, fun _ => ⟨b, 0, rfl, hb, hf.row fun j v hj => by rw [cell_of_row _ _ _ _ _ _ h]; simpa using hj⟩⟩

def recC : List Value := [.int .i64 6, .bool false, .int .i64 0, .string ByteArray.empty, .string ByteArray.empty, .string ByteArray.empty, .slice none 0 0, .slice none 0 0]
theorem recV_at (S : Nat → Prop) (w : World) : Val.At S w recV recC := by
  unfold recV Val.At
  refine ⟨none, 0, .slice none 0 0, rfl, ⟨⟨by omega, by omega⟩, ⟨by omega, by omega⟩, ?_, ?_, ?_⟩, ⟨by rw [LIM_eq]; simp, by simp, by simp⟩, by simp, none, 0, rfl, by rw [LIM_eq]; simp, by simp, by simp, by simp, by simp⟩ <;> (rw [maxLen_eq]; decide)
theorem fitA : FitU uA := ⟨by rw [maxLen_eq]; decide, by rw [maxLen_eq]; decide⟩
theorem fitB : FitU uB := ⟨by rw [maxLen_eq]; decide, by rw [maxLen_eq]; decide⟩

theorem list_cons {α : Type} {l : List α} {n : Nat} (h : l.length = n + 1) : ∃ x r, l = x :: r ∧ r.length = n := by
  match l, h with
  | x :: r, h => exact ⟨x, r, rfl, by simpa using h⟩

/-! ### single operations -/
theorem exec_eqI {o : Oper} {a : Act} {w : World} {T T' : TypeId} {x y : Operand} {r s : Int} (ho : o.op = .binOp .eql T x y T') (hx : a.eval x = .int .i64 r) (hy : a.eval y = .int .i64 s) : (execOp a.eval o).run Tryz.prog w = .ok (.value (.bool (r == s))) w := by
  unfold execOp
  simp only [ho, hx, hy]
  simp [go_sem]
theorem exec_eqU {o : Oper} {a : Act} {w : World} {T' : TypeId} {x' y' : Operand} {x y : Uid} (ho : o.op = .binOp .eql 31 x' y' T') (hx : a.eval x' = valU x) (hy : a.eval y' = valU y) : (execOp a.eval o).run Tryz.prog w = .ok (.value (.bool (decide (x = y)))) w := by
  unfold execOp
  simp only [ho, hx, hy, Sem.run_bind, guardU, eqlU, Result.andThen_ok]
  rfl
theorem exec_pick {P : Program} {o : Oper} {a : Act} {w : World} {c x y : Operand} {v : Value} (ho : o.op = .pick c x y) (hc : a.eval c = .bool true) (hx : a.eval x = v) : (execOp a.eval o).run P w = .ok (.value v) w := by
  unfold execOp
  simp [ho, hc, hx, asBool]
theorem exec_len {o : Oper} {a : Act} {w : World} {T e : TypeId} {x : Operand} {A : Option Addr} {n c : Nat} (ho : o.op = .call { callee := .builtin .len, args := #[x], argTypes := #[T] }) (hT : Tryz.prog.underlying T = some (.slice e)) (hx : a.eval x = .slice A n c) : (execOp a.eval o).run Tryz.prog w = .ok (.value (.int .i64 n)) w := by
  unfold execOp
  simp only [ho, resolve, invoke, builtin, Sem.run_bind, Sem.run_pure, Result.andThen_ok, List.map_toArray, List.map_cons, List.map_nil, hx]
  simp [Builtin.len_, run_underlying hT, goInt]
theorem Tryz.agg58 : ∀ w, (isAgg 29).run Tryz.prog w = .ok false w := fun _ => by kernel_rfl
theorem Tryz.field60p (O : Nat) : ∀ w, (Instr.fieldAt 37 (.pointer (some ⟨O, 0, none⟩)) 1).run Tryz.prog w = .ok (.pointer (some ⟨O, 2, none⟩)) w := by
  intro w; simp [Instr.fieldAt, go_sem]
theorem Tryz.build58 (s t : ByteArray) : ∀ w, (Instr.buildSlice 29 1 #[(0, .agg #[.string s, .string t])]).run Tryz.prog w = .ok (.slice (some ⟨w.heap.size, 0, none⟩) 1 1) (w.alloc (.cells #[.string s, .string t] 31)) := by
  intro w; simp [Instr.buildSlice, go_sem]
theorem Tryz.built60z (s t : ByteArray) (A : Option Addr) (n c : Nat) : Tryz.prog.built 37 [(0, .agg #[.string s, .string t]), (1, .slice A n c)] =
    some #[.string s, .string t, .slice A n c, .int .i64 0, .bool false, .int .i64 0, .string ByteArray.empty, .string ByteArray.empty, .string ByteArray.empty, .slice none 0 0, .slice none 0 0] := by kernel_rfl

def guardsB (l : List Oper) (n : Nat) (gs : List Nat) : Bool := (l.take n).zipIdx.all fun p => match p.1.guard with
  | none => true
  | some (g, b) => b && gs.contains g && decide (g < n) && waits l p.2 g && (match l[g]? with | some og => og.dst.isSome | none => false)
theorem guards_of {l : List Oper} {n : Nat} {gs : List Nat} (h : guardsB l n gs = true) {i : Nat} {o : Oper} (hi : i < n) (ho : l[i]? = some o) {g : Nat} {b : Bool} (hg : o.guard = some (g, b)) : b = true ∧ g ∈ gs ∧ g < n ∧ waits l i g = true ∧ ∃ t, dstIs l g t = true := by
  have h1 := List.all_eq_true.1 h (o, i) (List.mem_zipIdx_iff_getElem?.2 (by rw [List.getElem?_take, if_pos hi]; exact ho))
  simp only [hg, Bool.and_eq_true, decide_eq_true_eq] at h1
  obtain ⟨⟨⟨⟨h1, h2⟩, h3⟩, h4⟩, h5⟩ := h1
  refine ⟨h1, by simpa using h2, h3, h4, ?_⟩
  unfold dstIs
  cases hl : l[g]? with
  | none => rw [hl] at h5; cases h5
  | some og =>
    rw [hl] at h5
    obtain ⟨t, ht⟩ := Option.isSome_iff_exists.1 h5
    exact ⟨t, by simp [ht]⟩

theorem heap6 (w : World) (o0 o1 o2 o3 o4 o5 : Obj) : ((((((w.alloc o0).alloc o1).alloc o2).alloc o3).alloc o4).alloc o5).heap[w.heap.size]? = some o0 ∧ ((((((w.alloc o0).alloc o1).alloc o2).alloc o3).alloc o4).alloc o5).heap[w.heap.size + 1]? = some o1 ∧
    ((((((w.alloc o0).alloc o1).alloc o2).alloc o3).alloc o4).alloc o5).heap[w.heap.size + 1 + 1]? = some o2 ∧ ((((((w.alloc o0).alloc o1).alloc o2).alloc o3).alloc o4).alloc o5).heap[w.heap.size + 1 + 1 + 1]? = some o3 ∧
    ((((((w.alloc o0).alloc o1).alloc o2).alloc o3).alloc o4).alloc o5).heap[w.heap.size + 1 + 1 + 1 + 1]? = some o4 ∧ ((((((w.alloc o0).alloc o1).alloc o2).alloc o3).alloc o4).alloc o5).heap[w.heap.size + 1 + 1 + 1 + 1 + 1]? = some o5 ∧
    ((((((w.alloc o0).alloc o1).alloc o2).alloc o3).alloc o4).alloc o5).heap.size = w.heap.size + 6 ∧ Ext w ((((((w.alloc o0).alloc o1).alloc o2).alloc o3).alloc o4).alloc o5) := by
  refine ⟨?_, ?_, ?_, ?_, ?_, ?_, by simp, (((((((Ext.refl w).alloc _).alloc _).alloc _).alloc _).alloc _).alloc _)⟩ <;> (simp only [World.alloc, Array.getElem?_push, Array.size_push]; (repeat rw [if_neg (by omega)]); simp)
theorem heap2 (w : World) (o0 o1 : Obj) : ((w.alloc o0).alloc o1).heap[w.heap.size]? = some o0 ∧ ((w.alloc o0).alloc o1).heap[w.heap.size + 1]? = some o1 ∧ ((w.alloc o0).alloc o1).heap.size = w.heap.size + 2 ∧ Ext w ((w.alloc o0).alloc o1) := by
  refine ⟨?_, ?_, by simp, ((Ext.refl w).alloc _).alloc _⟩ <;> (simp only [World.alloc, Array.getElem?_push, Array.size_push]; (repeat rw [if_neg (by omega)]); simp)

/-! ### how far the last statement is -/
def entZ (s : Nat) : Value := .agg #[.string tU, .string tA, .slice (some ⟨s, 0, none⟩) 1 1, .int .i64 0, .bool false, .int .i64 0, .string ByteArray.empty, .string ByteArray.empty, .string ByteArray.empty, .slice none 0 0, .slice none 0 0]
def vals5 (s : Nat) : List Value := [.int .i64 (-1), .bool true, .bool true, .bool true, .slice (some ⟨s, 0, none⟩) 1 1, entZ s, .slice (some ⟨s + 1, 0, none⟩) 1 1, .bool true, .bool true]
def obj1 : Obj := .cells #[.string tU, .string tA] 31
def obj2 (s : Nat) : Obj := .cells #[.string tU, .string tA, .slice (some ⟨s, 0, none⟩) 1 1, .int .i64 0, .bool false, .int .i64 0, .string ByteArray.empty, .string ByteArray.empty, .string ByteArray.empty, .slice none 0 0, .slice none 0 0] 37
structure Stage5 (w9 : World) (vs : List Value) (W : World) : Prop where
  ex : ∃ W1, Ext w9 W1 ∧ vs = (vals5 W1.heap.size).take vs.length ∧ (vs.length ≤ 4 → W = W1) ∧ (vs.length = 5 ∨ vs.length = 6 → W = W1.alloc obj1) ∧ (vs.length = 7 → W = (W1.alloc obj1).alloc (obj2 W1.heap.size)) ∧ (8 ≤ vs.length → Ext w9 W)
section
variable {w9 : World} {vs : List Value} {W : World}
theorem Stage5.ext (h : Stage5 w9 vs W) : Ext w9 W := by
  obtain ⟨W1, h1, _, h3, h4, h5, h6⟩ := h.ex
  rcases (by omega : vs.length ≤ 4 ∨ (vs.length = 5 ∨ vs.length = 6) ∨ vs.length = 7 ∨ 8 ≤ vs.length) with h | h | h | h
  · rw [h3 h]; exact h1
  · rw [h4 h]; exact h1.alloc _
  · rw [h5 h]; exact (h1.alloc _).alloc _
  · exact h6 h
theorem Stage5.at (h : Stage5 w9 vs W) {k : Nat} {v : Value} (hk : k < vs.length) (hv : ∀ s, (vals5 s)[k]? = some v) : vs.getD k undef = v := by
  obtain ⟨W1, _, h2, _⟩ := h.ex
  have h3 : vs[k]? = some v := by
    conv => lhs; rw [h2]
    rw [List.getElem?_take, if_pos hk]; exact hv _
  rw [List.getD_eq_getElem?_getD, h3]; rfl
theorem vals5_snoc {s n : Nat} {vs : List Value} {v : Value} (h : vs = (vals5 s).take vs.length) (hn : vs.length = n) (hv : (vals5 s)[n]? = some v) : vs ++ [v] = (vals5 s).take (vs ++ [v]).length := by
  rw [List.length_append, hn, List.length_singleton, take_succ_of hv, ← hn, ← h]
theorem Stage5.start (w9 : World) : Stage5 w9 [] w9.drew := ⟨w9.drew, ⟨⟨rfl, rfl, rfl, Nat.le_refl _, fun _ _ => rfl⟩, Nat.le_succ _⟩, rfl, fun _ => rfl, fun h => by simp at h, fun h => by simp at h, fun h => by simp at h⟩
theorem Stage5.first (hl : vs.length = 0) {w' : World} (h' : Ext w9 w') : Stage5 w9 (vs ++ [.int .i64 (-1)]) w' := by
  have : vs = [] := List.eq_nil_of_length_eq_zero hl
  subst this
  exact ⟨w', h', rfl, fun _ => rfl, fun h => by simp at h, fun h => by simp at h, fun h => by simp at h⟩
theorem Stage5.next (h : Stage5 w9 vs W) {k : Nat} {v : Value} (hl : vs.length = k) (hk : k ≤ 3) (hv : ∀ s, (vals5 s)[k]? = some v) : Stage5 w9 (vs ++ [v]) W := by
  obtain ⟨W1, h1, h2, h3, _⟩ := h.ex
  exact ⟨W1, h1, vals5_snoc h2 hl (hv _), fun _ => h3 (by omega), fun h => by simp at h; omega, fun h => by simp at h; omega, fun h => by simp at h; omega⟩
theorem Stage5.laid1 (h : Stage5 w9 vs W) (hl : vs.length = 4) : Stage5 w9 (vs ++ [.slice (some ⟨W.heap.size, 0, none⟩) 1 1]) (W.alloc obj1) := by
  obtain ⟨W1, h1, h2, h3, _⟩ := h.ex
  obtain rfl := h3 (by omega)
  exact ⟨W, h1, vals5_snoc h2 hl rfl, fun h => by simp at h; omega, fun _ => rfl, fun h => by simp at h; omega, fun h => by simp at h; omega⟩
theorem Stage5.s5 (h : Stage5 w9 vs W) (hl : vs.length = 5) : ∃ s, vs.getD 4 undef = .slice (some ⟨s, 0, none⟩) 1 1 ∧ Stage5 w9 (vs ++ [entZ s]) W := by
  obtain ⟨W1, h1, h2, h3, h4, _⟩ := h.ex
  refine ⟨W1.heap.size, ?_, W1, h1, vals5_snoc h2 hl rfl, fun h => by simp at h; omega, fun _ => h4 (.inl hl), fun h => by simp at h; omega, fun h => by simp at h; omega⟩
  rw [h2, hl]; rfl
theorem Stage5.s6 (h : Stage5 w9 vs W) (hl : vs.length = 6) : ∃ s, vs.getD 5 undef = entZ s ∧ Stage5 w9 (vs ++ [.slice (some ⟨W.heap.size, 0, none⟩) 1 1]) (W.alloc (obj2 s)) := by
  obtain ⟨W1, h1, h2, h3, h4, _⟩ := h.ex
  obtain rfl := h4 (.inr hl)
  refine ⟨W1.heap.size, ?_, W1, h1, vals5_snoc h2 hl ?_, fun h => by simp at h; omega, fun h => by simp at h; omega, fun _ => rfl, fun h => by simp at h; omega⟩
  · rw [h2, hl]; rfl
  · simp [vals5]
theorem Stage5.s7 (h : Stage5 w9 vs W) (hl : vs.length = 7) : ∃ s, vs.getD 6 undef = .slice (some ⟨s, 0, none⟩) 1 1 ∧ Calls Tryz.prog 49 #[.slice (some ⟨s, 0, none⟩) 1 1] W fun e w' => ∃ v, e = .returned v ∧ (v = .bool true ∧ Ext w9 w') := by
  obtain ⟨W1, h1, h2, h3, h4, h5, _⟩ := h.ex
  obtain rfl := h5 hl
  refine ⟨W1.heap.size + 1, by rw [h2, hl]; rfl, ?_⟩
  have hh := heap2 W1 obj1 (obj2 W1.heap.size)
  obtain ⟨m0, m1, hsz, hx⟩ := hh
  have hr : entR.RowsAt (fun b => b < ((W1.alloc obj1).alloc (obj2 W1.heap.size)).heap.size) ((W1.alloc obj1).alloc (obj2 W1.heap.size)) [⟨uA, [uA], .zero⟩] (.slice (some ⟨W1.heap.size + 1, 0, none⟩) 1 1) :=
    flat_block (xs := .string tU :: .string tA :: .slice (some ⟨W1.heap.size, 0, none⟩) 1 1 :: zeroCells) m1 (Rep.Flat.single (R := entR) (x := ⟨uA, [uA], .zero⟩) ⟨_, zeroCells, rfl, fitA, flat_block (xs := [.string tU, .string tA]) m0 (Rep.Flat.single (R := uidR) ⟨rfl, fitA⟩) (by omega) (by rw [LIM_eq]; simp) rfl (by simp) (by rw [maxLen_eq]; omega), Val.zero_at _ _⟩) (by omega) (by rw [LIM_eq]; simp) rfl (by simp) (by rw [maxLen_eq]; omega)
  refine (round_ok _ _ _ _ (fun _ h => h) hr (by simp) (by intro e he; simp at he; subst he; simp) (by simp)).mono ?_
  rintro e w' ⟨r, rfl, hr, hx'⟩
  exact ⟨_, rfl, by rw [hr.2 round_L3], ((h1.alloc _).alloc _).trans hx'⟩
theorem Stage5.late (h : Stage5 w9 vs W) (hl : vs.length = 7) {w' : World} (h' : Ext w9 w') : Stage5 w9 (vs ++ [.bool true]) w' := by
  obtain ⟨W1, h1, h2, _⟩ := h.ex
  exact ⟨W1, h1, vals5_snoc h2 hl rfl, fun h => by simp at h; omega, fun h => by simp at h; omega, fun h => by simp at h; omega, fun _ => h'⟩
theorem Stage5.next8 (h : Stage5 w9 vs W) (hl : vs.length = 8) : Stage5 w9 (vs ++ [.bool true]) W := by
  obtain ⟨W1, h1, h2, _, _, _, h6⟩ := h.ex
  exact ⟨W1, h1, vals5_snoc h2 hl rfl, fun h => by simp at h; omega, fun h => by simp at h; omega, fun h => by simp at h; omega, fun _ => h6 (by omega)⟩
end
set_option maxRecDepth 100000 in
set_option maxHeartbeats 1600000 in
theorem awake5_ok (w : World) : Calls Tryz.prog 15 #[] w fun e w' => e = .returned (.bool true) ∧ Ext w w' := by
  go_enter Tryz.func15, Tryz.ntmps15
  go_wp2_with fail
  obtain ⟨w6, hw6⟩ : ∃ w6, w6 = ((((((w.alloc (.cells #[.string tU, .string tA] 31)).alloc (.cells #[.string tU, .string tB] 31)).alloc (.cells recC.toArray 35)).alloc (.cells #[.string tU, .string tB] 31)).alloc (.cells #[.string tU, .string tA] 31)).alloc
      (.cells ((.string tU :: .string tA :: .slice (some ⟨w.heap.size + 1 + 1 + 1, 0, none⟩) 1 1 :: recC) ++ (.string tU :: .string tB :: .slice (some ⟨w.heap.size + 1 + 1 + 1 + 1, 0, none⟩) 1 1 :: recC)).toArray 37)) := ⟨_, rfl⟩
  have h6 := heap6 w (.cells #[.string tU, .string tA] 31) (.cells #[.string tU, .string tB] 31) (.cells recC.toArray 35) (.cells #[.string tU, .string tB] 31) (.cells #[.string tU, .string tA] 31)
      (.cells ((.string tU :: .string tA :: .slice (some ⟨w.heap.size + 1 + 1 + 1, 0, none⟩) 1 1 :: recC) ++ (.string tU :: .string tB :: .slice (some ⟨w.heap.size + 1 + 1 + 1 + 1, 0, none⟩) 1 1 :: recC)).toArray 37)
  rw [← hw6] at h6
  obtain ⟨m0, m1, m2, m3, m4, m5, hsz, hx⟩ := h6
  have hfl : ∀ (u : Uid) (S : Nat → Prop), FitU u → uidR.Flat S w6 [u] [.string u.1, .string u.2] := fun u S h => .single ⟨rfl, h⟩
  have hr : entR.RowsAt (fun b => b < w6.heap.size) w6 [⟨uA, [uB], recV⟩, ⟨uB, [uA], recV⟩] (.slice (some ⟨w.heap.size + 1 + 1 + 1 + 1 + 1, 0, none⟩) 2 2) :=
    flat_block m5 ((Rep.Flat.single (R := entR) (x := ⟨uA, [uB], recV⟩) (cs := .string tU :: .string tA :: .slice (some ⟨w.heap.size + 1 + 1 + 1, 0, none⟩) 1 1 :: recC) ⟨_, recC, rfl, fitA, flat_block m3 (hfl uB _ fitB) (by omega) (by rw [LIM_eq]; simp) rfl (by simp) (by rw [maxLen_eq]; omega), recV_at _ _⟩).append
      (Rep.Flat.single (R := entR) (x := ⟨uB, [uA], recV⟩) (cs := .string tU :: .string tB :: .slice (some ⟨w.heap.size + 1 + 1 + 1 + 1, 0, none⟩) 1 1 :: recC) ⟨_, recC, rfl, fitB, flat_block m4 (hfl uA _ fitA) (by omega) (by rw [LIM_eq]; simp) rfl (by simp) (by rw [maxLen_eq]; omega), recV_at _ _⟩)) (by omega) (by rw [LIM_eq]; simp) rfl (by simp) (by rw [maxLen_eq]; omega)
  have hcan := canE_ok _ _ _ w6 (fun _ h => h) hr (by simp) (by intro e he; simp at he; rcases he with rfl | rfl <;> simp) (by intro e he; simp at he; rcases he with rfl | rfl <;> simp [recV, Val.dep, Val.deps])
  rw [canon_L1] at hcan
  have HCan := Lib.hid hcan
  have HX6 := Lib.hid hx
  have M0 := Lib.hid m0
  have M1 := Lib.hid m1
  have M2 := Lib.hid m2
  have HSz := Lib.hid hsz
  clear m0 m1 m2 m3 m4 m5 hsz hx hr hcan hfl
  subst hw6
  refine HCan.out.mono ?_
  rintro e w7 ⟨v7, rfl, _, hx7⟩
  have HX7 := Lib.hid (HX6.out.trans hx7)
  have B0 : Hid (w7.heap[w.heap.size]? = some (.cells #[.string tU, .string tA] 31 (0, 0))) := Lib.hid ((hx7.block _ (Blk_lt M0.out)).trans M0.out)
  have B1 : Hid (w7.heap[w.heap.size + 1]? = some (.cells #[.string tU, .string tB] 31 (0, 0))) := Lib.hid ((hx7.block _ (Blk_lt M1.out)).trans M1.out)
  have B2 : Hid (w7.heap[w.heap.size + 1 + 1]? = some (.cells recC.toArray 35 (0, 0))) := Lib.hid ((hx7.block _ (Blk_lt M2.out)).trans M2.out)
  clear hx7 HCan M0 M1 M2
  have a0 : w7.cell? ⟨w.heap.size, 0, none⟩ = some (.string ⟨#[85]⟩) := by rw [cell_of_row _ _ _ _ _ _ B0.out]; rfl
  have a1 : w7.cell? ⟨w.heap.size, 1, none⟩ = some (.string ⟨#[97]⟩) := by rw [cell_of_row _ _ _ _ _ _ B0.out]; rfl
  have b0 : w7.cell? ⟨w.heap.size + 1, 0, none⟩ = some (.string ⟨#[85]⟩) := by rw [cell_of_row _ _ _ _ _ _ B1.out]; rfl
  have b1 : w7.cell? ⟨w.heap.size + 1, 1, none⟩ = some (.string ⟨#[98]⟩) := by rw [cell_of_row _ _ _ _ _ _ B1.out]; rfl
  have r0 : w7.cell? ⟨w.heap.size + 1 + 1, 0, none⟩ = some (.int .i64 6) := by rw [cell_of_row _ _ _ _ _ _ B2.out]; rfl
  have r1 : w7.cell? ⟨w.heap.size + 1 + 1, 1, none⟩ = some (.bool false) := by rw [cell_of_row _ _ _ _ _ _ B2.out]; rfl
  have r2 : w7.cell? ⟨w.heap.size + 1 + 1, 2, none⟩ = some (.int .i64 0) := by rw [cell_of_row _ _ _ _ _ _ B2.out]; rfl
  have r3 : w7.cell? ⟨w.heap.size + 1 + 1, 3, none⟩ = some (.string ByteArray.empty) := by rw [cell_of_row _ _ _ _ _ _ B2.out]; rfl
  have r4 : w7.cell? ⟨w.heap.size + 1 + 1, 4, none⟩ = some (.string ByteArray.empty) := by rw [cell_of_row _ _ _ _ _ _ B2.out]; rfl
  have r5 : w7.cell? ⟨w.heap.size + 1 + 1, 5, none⟩ = some (.string ByteArray.empty) := by rw [cell_of_row _ _ _ _ _ _ B2.out]; rfl
  have r6 : w7.cell? ⟨w.heap.size + 1 + 1, 6, none⟩ = some (.slice none 0 0) := by rw [cell_of_row _ _ _ _ _ _ B2.out]; rfl
  have r7 : w7.cell? ⟨w.heap.size + 1 + 1, 7, none⟩ = some (.slice none 0 0) := by rw [cell_of_row _ _ _ _ _ _ B2.out]; rfl
  have hz : w.heap.size + 1 + 1 < w7.heap.size := Blk_lt B2.out
  have hz : w.heap.size + 1 + 1 < w7.heap.size := Blk_lt B2.out
  go_wp2_with fail
  have h8 := heap2 w7 (.cells [.string tU, .string tB, .string tU, .string tB].toArray 31) (.cells ((.string tU :: .string tB :: .slice none 0 0 :: recC) ++ (.string tU :: .string tA :: .slice (some ⟨w7.heap.size, 0, none⟩) 2 2 :: recC)).toArray 37)
  obtain ⟨n0, n1, nsz, nx⟩ := h8
  have hr8 : entR.RowsAt (fun b => b < ((w7.alloc (.cells [.string tU, .string tB, .string tU, .string tB].toArray 31)).alloc (.cells ((.string tU :: .string tB :: .slice none 0 0 :: recC) ++ (.string tU :: .string tA :: .slice (some ⟨w7.heap.size, 0, none⟩) 2 2 :: recC)).toArray 37)).heap.size)
      ((w7.alloc (.cells [.string tU, .string tB, .string tU, .string tB].toArray 31)).alloc (.cells ((.string tU :: .string tB :: .slice none 0 0 :: recC) ++ (.string tU :: .string tA :: .slice (some ⟨w7.heap.size, 0, none⟩) 2 2 :: recC)).toArray 37)) [⟨uB, [], recV⟩, ⟨uA, [uB, uB], recV⟩] (.slice (some ⟨w7.heap.size + 1, 0, none⟩) 2 2) :=
    flat_block n1 ((Rep.Flat.single (R := entR) (x := ⟨uB, [], recV⟩) (cs := .string tU :: .string tB :: .slice none 0 0 :: recC) ⟨_, recC, rfl, fitB, Rep.RowsAt.nil _ _, recV_at _ _⟩).append
      (Rep.Flat.single (R := entR) (x := ⟨uA, [uB, uB], recV⟩) (cs := .string tU :: .string tA :: .slice (some ⟨w7.heap.size, 0, none⟩) 2 2 :: recC) ⟨_, recC, rfl, fitA, flat_block n0 ((Rep.Flat.single (R := uidR) (x := uB) (cs := [.string tU, .string tB]) ⟨rfl, fitB⟩).append (Rep.Flat.single (R := uidR) (x := uB) (cs := [.string tU, .string tB]) ⟨rfl, fitB⟩)) (by omega) (by rw [LIM_eq]; simp) rfl (by simp) (by rw [maxLen_eq]; omega), recV_at _ _⟩)) (by omega) (by rw [LIM_eq]; simp) rfl (by simp) (by rw [maxLen_eq]; omega)
  have hcan := canE_ok _ _ _ _ (fun _ h => h) hr8 (by simp) (by intro e he; simp at he; rcases he with rfl | rfl <;> simp) (by intro e he; simp at he; rcases he with rfl | rfl <;> simp [recV, Val.dep, Val.deps])
  rw [canon_L2] at hcan
  refine hcan.mono ?_
  rintro e w9 ⟨v9, rfl, ⟨xs9, ho9, hf9⟩, hx9⟩
  have HX9 := Lib.hid (HX7.out.trans (nx.trans hx9))
  have B0' := Lib.hid (((nx.trans hx9).block _ (Blk_lt B0.out)).trans B0.out)
  have B1' := Lib.hid (((nx.trans hx9).block _ (Blk_lt B1.out)).trans B1.out)
  obtain ⟨g, cap, rfl, hg, hnc, hcm, hcells⟩ := own_cells ho9 (by simp)
  have Hgl : Hid (g < w9.heap.size) := Lib.hid (ho9.lt g rfl).2
  have hfa := hf9.get (i := 0) (x := ⟨uA, [uB], recV⟩) rfl
  obtain ⟨cs9, ⟨pv, acs, rfl, _, ⟨A1, c1, rfl, _⟩, _⟩, hcs⟩ := hfa
  have hcg : CellsAt w9 g 0 [.string tU, .string tA] := fun j v hj => by
    refine hcells _ v ?_
    match j, hj with
    | 0, h => have := hcs 0 v h; simpa using this
    | 1, h => have := hcs 1 v h; simpa using this
  have hcp : w9.cell? ⟨g, 2, none⟩ = some (.slice A1 1 c1) := by
    have := hcells 2 (.slice A1 1 c1) (by simpa using hcs 2 (.slice A1 1 c1) rfl)
    simpa using this
  have hca : CellsAt w9 w.heap.size 0 [.string tU, .string tA] := fun j v hj => by rw [cell_of_row _ _ _ _ _ _ B0'.out]; simpa using hj
  have hcb : CellsAt w9 (w.heap.size + 1) 0 [.string tU, .string tB] := fun j v hj => by rw [cell_of_row _ _ _ _ _ _ B1'.out]; simpa using hj
  clear B0 B1
  have B0 := B0'
  have B1 := B1'
  have Hcg := Lib.hid hcg
  have Hca := Lib.hid hca
  have Hcb := Lib.hid hcb
  have Hcp := Lib.hid hcp
  clear hcg hca hcb hcp B0' B1' B2 a0 a1 b0 b1 r0 r1 r2 r3 r4 r5 r6 r7 hz hcan hr8 nx n0 n1 nsz ho9 hf9 hcs hcells hg hx9
  go_wp2_with fail
  -- REGION
  refine staged_regionG 41 [30, 31, 32, 33, 36, 37, 38, 39, 40] [.int .i64 21, .bool true, .bool true, .int .i64 0, .bool true, .bool true, .bool true, .slice (some ⟨g, 0, none⟩) 2 cap, .int .i64 2, .bool true, .bool true, .bool true, .slice (some ⟨g, 0, none⟩) 2 cap, .pointer (some ⟨g, 0, none⟩), .pointer (some ⟨g, 0, none⟩), .agg #[.string tU, .string tA], .agg #[.string tU, .string tA], .bool true, .bool true, .bool true, .slice (some ⟨g, 0, none⟩) 2 cap, .pointer (some ⟨g, 0, none⟩), .pointer (some ⟨g, 2, none⟩), .slice A1 1 c1, .int .i64 1, .bool true, .bool true, .bool true, .agg #[.string tU, .string tA], .agg #[.string tU, .string tB], undef, undef, undef, undef, .agg #[.string tU, .string tA], .agg #[.string tU, .string tA], undef, undef, undef, undef, undef]
    (Stage5 w9) (by kernel_rfl) (by kernel_rfl) (by kernel_rfl) (fun i o hi ho g' b hgd => ?_) (by kernel_rfl) (Stage5.start w9) (fun i op hi hn ho vs W a hR hold hat => ?_) (fun k i op hk ho vs W a hvl hR hold hat Q' K hK => ?_) ?_
  · obtain ⟨rfl, hgs, hgn, hgw, hgt⟩ := guards_of (gs := [2, 6, 11, 19, 27, 33]) (by kernel_rfl) hi ho hgd
    refine ⟨hgn, hgw, hgt, fun vs W hR hdone => ?_⟩
    simp only [List.mem_cons, List.mem_nil_iff, or_false] at hgs
    rcases hgs with rfl | rfl | rfl | rfl | rfl | rfl
    · rfl
    · rfl
    · rfl
    · rfl
    · rfl
    · exact hR.at (k := 3) (hdone 3 rfl) (fun _ => rfl)
  · have hx := hR.ext
    rcases (by simp at hn; omega : i = 0 ∨ i = 1 ∨ i = 2 ∨ i = 3 ∨ i = 4 ∨ i = 5 ∨ i = 6 ∨ i = 7 ∨ i = 8 ∨ i = 9 ∨ i = 10 ∨ i = 11 ∨ i = 12 ∨ i = 13 ∨ i = 14 ∨ i = 15 ∨ i = 16 ∨ i = 17 ∨ i = 18 ∨ i = 19 ∨ i = 20 ∨ i = 21 ∨ i = 22 ∨ i = 23 ∨ i = 24 ∨ i = 25 ∨ i = 26 ∨ i = 27 ∨ i = 28 ∨ i = 29 ∨ i = 34 ∨ i = 35) with rfl | rfl | rfl | rfl | rfl | rfl | rfl | rfl | rfl | rfl | rfl | rfl | rfl | rfl | rfl | rfl | rfl | rfl | rfl | rfl | rfl | rfl | rfl | rfl | rfl | rfl | rfl | rfl | rfl | rfl | rfl | rfl <;> obtain rfl := Option.some.inj ho
    · exact exec_move rfl (hold 5 (by kernel_rfl))
    · exact exec_eqI (y := .const (.int .i64 21)) (s := 21) rfl (hat 0 40 (by omega) (by kernel_rfl) (by kernel_rfl)) rfl
    · exact exec_move rfl (hat 1 41 (by omega) (by kernel_rfl) (by kernel_rfl))
    · exact exec_move rfl (hold 7 (by kernel_rfl))
    · exact exec_eqI (y := .const (.int .i64 0)) (s := 0) rfl (hat 3 43 (by omega) (by kernel_rfl) (by kernel_rfl)) rfl
    · exact exec_pick rfl (hat 2 42 (by omega) (by kernel_rfl) (by kernel_rfl)) (hat 4 44 (by omega) (by kernel_rfl) (by kernel_rfl))
    · exact exec_move rfl (hat 5 45 (by omega) (by kernel_rfl) (by kernel_rfl))
    · exact exec_move rfl (hold 6 (by kernel_rfl))
    · exact exec_len rfl Tryz.underlying22 (hat 7 47 (by omega) (by kernel_rfl) (by kernel_rfl))
    · exact exec_eqI (y := .const (.int .i64 2)) (s := 2) rfl (hat 8 48 (by omega) (by kernel_rfl) (by kernel_rfl)) rfl
    · exact exec_pick rfl (hat 6 46 (by omega) (by kernel_rfl) (by kernel_rfl)) (hat 9 49 (by omega) (by kernel_rfl) (by kernel_rfl))
    · exact exec_move rfl (hat 10 50 (by omega) (by kernel_rfl) (by kernel_rfl))
    · exact exec_move rfl (hold 6 (by kernel_rfl))
    · exact exec_index (i := 0) rfl (hat 12 52 (by omega) (by kernel_rfl) (by kernel_rfl)) rfl Tryz.underlying22 Tryz.size60 (by omega)
    · exact exec_field _ _ _ rfl (hat 13 53 (by omega) (by kernel_rfl) (by kernel_rfl)) (Tryz.field60 g)
    · exact exec_load_cells _ _ rfl g 0 (hat 14 54 (by omega) (by kernel_rfl) (by kernel_rfl)) (cs := [.string tU, .string tA]) Tryz.agg23 Tryz.size23 rfl (Hcg.out.alike (S := fun b => b < w9.heap.size) Hgl.out (Alike.of_ext hx (fun _ h => h)))
    · exact exec_load_cells _ _ rfl w.heap.size 0 (hold 1 (by kernel_rfl)) (cs := [.string tU, .string tA]) Tryz.agg23 Tryz.size23 rfl (Hca.out.alike (S := fun b => b < w9.heap.size) (Blk_lt B0.out) (Alike.of_ext hx (fun _ h => h)))
    · exact (exec_eqU (x := uA) (y := uA) rfl (hat 15 55 (by omega) (by kernel_rfl) (by kernel_rfl)) (hat 16 56 (by omega) (by kernel_rfl) (by kernel_rfl))).trans (by simp)
    · exact exec_pick rfl (hat 11 51 (by omega) (by kernel_rfl) (by kernel_rfl)) (hat 17 57 (by omega) (by kernel_rfl) (by kernel_rfl))
    · exact exec_move rfl (hat 18 58 (by omega) (by kernel_rfl) (by kernel_rfl))
    · exact exec_move rfl (hold 6 (by kernel_rfl))
    · exact exec_index (i := 0) rfl (hat 20 60 (by omega) (by kernel_rfl) (by kernel_rfl)) rfl Tryz.underlying22 Tryz.size60 (by omega)
    · exact exec_field _ _ _ rfl (hat 21 61 (by omega) (by kernel_rfl) (by kernel_rfl)) (Tryz.field60p g)
    · exact exec_load_one _ _ rfl g 2 (hat 22 62 (by omega) (by kernel_rfl) (by kernel_rfl)) Tryz.agg58 ((World.cell?_of_block (a := ⟨g, 2, none⟩) (hx.block g Hgl.out)).trans Hcp.out)
    · exact exec_len rfl Tryz.underlying29 (hat 23 63 (by omega) (by kernel_rfl) (by kernel_rfl))
    · exact exec_eqI (y := .const (.int .i64 1)) (s := 1) rfl (hat 24 64 (by omega) (by kernel_rfl) (by kernel_rfl)) rfl
    · exact exec_pick rfl (hat 19 59 (by omega) (by kernel_rfl) (by kernel_rfl)) (hat 25 65 (by omega) (by kernel_rfl) (by kernel_rfl))
    · exact exec_move rfl (hat 26 66 (by omega) (by kernel_rfl) (by kernel_rfl))
    · exact exec_load_cells _ _ rfl w.heap.size 0 (hold 1 (by kernel_rfl)) (cs := [.string tU, .string tA]) Tryz.agg23 Tryz.size23 rfl (Hca.out.alike (S := fun b => b < w9.heap.size) (Blk_lt B0.out) (Alike.of_ext hx (fun _ h => h)))
    · exact exec_load_cells _ _ rfl (w.heap.size + 1) 0 (hold 2 (by kernel_rfl)) (cs := [.string tU, .string tB]) Tryz.agg23 Tryz.size23 rfl (Hcb.out.alike (S := fun b => b < w9.heap.size) (Blk_lt B1.out) (Alike.of_ext hx (fun _ h => h)))
    · exact exec_load_cells _ _ rfl w.heap.size 0 (hold 1 (by kernel_rfl)) (cs := [.string tU, .string tA]) Tryz.agg23 Tryz.size23 rfl (Hca.out.alike (S := fun b => b < w9.heap.size) (Blk_lt B0.out) (Alike.of_ext hx (fun _ h => h)))
    · exact exec_load_cells _ _ rfl w.heap.size 0 (hold 1 (by kernel_rfl)) (cs := [.string tU, .string tA]) Tryz.agg23 Tryz.size23 rfl (Hca.out.alike (S := fun b => b < w9.heap.size) (Blk_lt B0.out) (Alike.of_ext hx (fun _ h => h)))
  · have hk9 : k < 9 := by simpa using (List.getElem?_eq_some_iff.1 hk).1
    rcases (by omega : k = 0 ∨ k = 1 ∨ k = 2 ∨ k = 3 ∨ k = 4 ∨ k = 5 ∨ k = 6 ∨ k = 7 ∨ k = 8) with rfl | rfl | rfl | rfl | rfl | rfl | rfl | rfl | rfl <;> obtain rfl := Option.some.inj hk <;> obtain rfl := Option.some.inj ho
    · have hx := hR.ext
      refine wp_enter2 (Φ := fun v w' => v = .int .i64 (-1) ∧ Ext w9 w') (exec_call Tryz.func48 rfl rfl rfl (map_two (hat 28 68 (by omega) (by kernel_rfl) (by kernel_rfl)) (hat 29 69 (by omega) (by kernel_rfl) (by kernel_rfl)))) ?_ (fun v w' h => hK _ _ ?_)
      · refine (orderU_ok uA uB W).mono ?_
        rintro e w' ⟨rfl, hx'⟩
        exact ⟨_, rfl, by rw [ordAB], hx.trans hx'⟩
      · obtain ⟨rfl, h'⟩ := h
        exact Stage5.first hvl h'
    · exact wp_value2 (exec_eqI (y := .const (.int .i64 (-1))) (s := -1) rfl (((hat 30 70 (by omega) (by kernel_rfl) (by kernel_rfl))).trans (hR.at (k := 0) (by omega) (fun _ => rfl))) rfl) (hK _ _ (hR.next (k := 1) hvl (by omega) (fun _ => rfl)))
    · exact wp_value2 (exec_pick rfl (hat 27 67 (by omega) (by kernel_rfl) (by kernel_rfl)) (((hat 31 71 (by omega) (by kernel_rfl) (by kernel_rfl))).trans (hR.at (k := 1) (by omega) (fun _ => rfl)))) (hK _ _ (hR.next (k := 2) hvl (by omega) (fun _ => rfl)))
    · exact wp_value2 (exec_move rfl (((hat 32 72 (by omega) (by kernel_rfl) (by kernel_rfl))).trans (hR.at (k := 2) (by omega) (fun _ => rfl)))) (hK _ _ (hR.next (k := 3) hvl (by omega) (fun _ => rfl)))
    · exact wp_value2 (exec_build _ _ rfl (hat 35 75 (by omega) (by kernel_rfl) (by kernel_rfl)) (Tryz.build58 tU tA W)) (hK _ _ (hR.laid1 hvl))
    · obtain ⟨s, hs⟩ := hR.s5 hvl
      exact wp_value2 (exec_build_agg _ _ rfl (vals := [(0, .agg #[.string tU, .string tA]), (1, .slice (some ⟨s, 0, none⟩) 1 1)]) (by simp only [List.map_toArray, List.map_cons, List.map_nil, (hat 34 74 (by omega) (by kernel_rfl) (by kernel_rfl)), ((hat 36 76 (by omega) (by kernel_rfl) (by kernel_rfl))).trans hs.1]; rfl) (Tryz.built60z _ _ _ _ _)) (hK _ _ hs.2)
    · obtain ⟨s, hs⟩ := hR.s6 hvl
      exact wp_value2 (exec_build _ _ rfl (((hat 37 77 (by omega) (by kernel_rfl) (by kernel_rfl))).trans hs.1) (Tryz.build57 _ _ _ _ _ _ _ _ _ _ _ W)) (hK _ _ hs.2)
    · obtain ⟨s, hs⟩ := hR.s7 hvl
      refine wp_enter2 (Φ := fun v w' => v = .bool true ∧ Ext w9 w') (exec_call Tryz.func49 rfl rfl rfl (map_one (((hat 38 78 (by omega) (by kernel_rfl) (by kernel_rfl))).trans hs.1))) ?_ (fun v w' h => hK _ _ ?_)
      · exact hs.2
      · obtain ⟨rfl, h'⟩ := h
        exact hR.late hvl h'
    · exact wp_value2 (exec_pick rfl (((hat 33 73 (by omega) (by kernel_rfl) (by kernel_rfl))).trans (hR.at (k := 3) (by omega) (fun _ => rfl))) (((hat 39 79 (by omega) (by kernel_rfl) (by kernel_rfl))).trans (hR.at (k := 7) (by omega) (fun _ => rfl)))) (hK _ _ (hR.next8 hvl))
  · intro ys vs W hyl hvl hR hys
    have h40 : ys.getD 40 undef = .bool true := (hys 40 (by omega)).trans (hR.at (k := 8) (by rw [hvl]; decide) (fun _ => rfl))
    have hx := hR.ext
    clear hys hR hvl
    obtain ⟨y0, zs0, rfl, hy0⟩ := list_cons hyl
    obtain ⟨y1, zs1, rfl, hy1⟩ := list_cons hy0
    obtain ⟨y2, zs2, rfl, hy2⟩ := list_cons hy1
    obtain ⟨y3, zs3, rfl, hy3⟩ := list_cons hy2
    obtain ⟨y4, zs4, rfl, hy4⟩ := list_cons hy3
    obtain ⟨y5, zs5, rfl, hy5⟩ := list_cons hy4
    obtain ⟨y6, zs6, rfl, hy6⟩ := list_cons hy5
    obtain ⟨y7, zs7, rfl, hy7⟩ := list_cons hy6
    obtain ⟨y8, zs8, rfl, hy8⟩ := list_cons hy7
    obtain ⟨y9, zs9, rfl, hy9⟩ := list_cons hy8
    obtain ⟨y10, zs10, rfl, hy10⟩ := list_cons hy9
    obtain ⟨y11, zs11, rfl, hy11⟩ := list_cons hy10
    obtain ⟨y12, zs12, rfl, hy12⟩ := list_cons hy11
    obtain ⟨y13, zs13, rfl, hy13⟩ := list_cons hy12
    obtain ⟨y14, zs14, rfl, hy14⟩ := list_cons hy13
    obtain ⟨y15, zs15, rfl, hy15⟩ := list_cons hy14
    obtain ⟨y16, zs16, rfl, hy16⟩ := list_cons hy15
    obtain ⟨y17, zs17, rfl, hy17⟩ := list_cons hy16
    obtain ⟨y18, zs18, rfl, hy18⟩ := list_cons hy17
    obtain ⟨y19, zs19, rfl, hy19⟩ := list_cons hy18
    obtain ⟨y20, zs20, rfl, hy20⟩ := list_cons hy19
    obtain ⟨y21, zs21, rfl, hy21⟩ := list_cons hy20
    obtain ⟨y22, zs22, rfl, hy22⟩ := list_cons hy21
    obtain ⟨y23, zs23, rfl, hy23⟩ := list_cons hy22
    obtain ⟨y24, zs24, rfl, hy24⟩ := list_cons hy23
    obtain ⟨y25, zs25, rfl, hy25⟩ := list_cons hy24
    obtain ⟨y26, zs26, rfl, hy26⟩ := list_cons hy25
    obtain ⟨y27, zs27, rfl, hy27⟩ := list_cons hy26
    obtain ⟨y28, zs28, rfl, hy28⟩ := list_cons hy27
    obtain ⟨y29, zs29, rfl, hy29⟩ := list_cons hy28
    obtain ⟨y30, zs30, rfl, hy30⟩ := list_cons hy29
    obtain ⟨y31, zs31, rfl, hy31⟩ := list_cons hy30
    obtain ⟨y32, zs32, rfl, hy32⟩ := list_cons hy31
    obtain ⟨y33, zs33, rfl, hy33⟩ := list_cons hy32
    obtain ⟨y34, zs34, rfl, hy34⟩ := list_cons hy33
    obtain ⟨y35, zs35, rfl, hy35⟩ := list_cons hy34
    obtain ⟨y36, zs36, rfl, hy36⟩ := list_cons hy35
    obtain ⟨y37, zs37, rfl, hy37⟩ := list_cons hy36
    obtain ⟨y38, zs38, rfl, hy38⟩ := list_cons hy37
    obtain ⟨y39, zs39, rfl, hy39⟩ := list_cons hy38
    obtain ⟨y40, zs40, rfl, hy40⟩ := list_cons hy39
    obtain rfl := List.eq_nil_of_length_eq_zero hy40
    have h40 : y40 = .bool true := h40
    subst h40
    have HXf := Lib.hid (HX9.out.trans hx)
    clear hx hy0 hy1 hy2 hy3 hy4 hy5 hy6 hy7 hy8 hy9 hy10 hy11 hy12 hy13 hy14 hy15 hy16 hy17 hy18 hy19 hy20 hy21 hy22 hy23 hy24 hy25 hy26 hy27 hy28 hy29 hy30 hy31 hy32 hy33 hy34 hy35 hy36 hy37 hy38 hy39
    simp only [List.take, List.drop, putAll]
    go_wp2_with fail
    go_ret
    exact ⟨rfl, HXf.out⟩
  -- BEHIND
end Go.Proofs.YtjllolagcdjlnaaGreat
