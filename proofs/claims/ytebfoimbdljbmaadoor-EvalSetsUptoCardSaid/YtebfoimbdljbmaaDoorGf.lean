/-
  What the program's canon and Canon, and the reference's Canon, come to: the same plain function. The conditions: none beyond each contract's own.
-/
import Derived.Test.YtebfoimbdljbmaaDoorGc
import Derived.Test.YtebfoimbdljbmaaDoorGe
import Derived.Test.YtebfoimbdljbmaaDoorGd
import Derived.Test.YtebfoimbdljbmaaDoorProg
import Derived.Test.YtebfoimbdljbmaaDoorGb
namespace Go.Proofs.YtebfoimbdljbmaaDoor
open Go.RowKit

theorem Val.plain_at (S : Nat → Prop) (w : World) (k : Int) (bo : Bool) (n : Int) (t ut ui : ByteArray) (hk : I64 k) (hn : I64 n) (h1 : t.size ≤ maxLen) (h2 : ut.size ≤ maxLen) (h3 : ui.size ≤ maxLen) :
    Val.At S w (.mk k bo n t ut ui [] []) [.int .i64 k, .bool bo, .int .i64 n, .string t, .string ut, .string ui, .slice none 0 0, .slice none 0 0] := by
  unfold Val.At
  exact ⟨none, 0, _, rfl, ⟨hk, hn, h1, h2, h3⟩, ⟨by simp [LIM], by simp, by simp⟩, by simp, none, 0, rfl, by simp [LIM], by simp, by simp, by simp, by simp⟩

theorem Val.set_at {S : Nat → Prop} {w : World} {l : List Val} {v : Value} (h : ValsAt S w l v) : Val.At S w (.mk 5 false 0 empty empty empty l []) [.int .i64 5, .bool false, .int .i64 0, .string ByteArray.empty, .string ByteArray.empty, .string ByteArray.empty, v, .slice none 0 0] := by
  obtain ⟨A, cap, rfl, h3, h4⟩ := h
  have h0 : empty.size ≤ maxLen := by rw [maxLen_eq]; decide
  unfold Val.At
  exact ⟨A, cap, _, rfl, ⟨⟨by omega, by omega⟩, ⟨by omega, by omega⟩, h0, h0, h0⟩, h3, h4, none, 0, rfl, by simp [LIM], by simp, by simp, by simp, by simp⟩
theorem empty_le : ByteArray.empty.size ≤ maxLen := by rw [maxLen_eq]; decide

set_option maxRecDepth 100000 in
set_option maxHeartbeats 1600000 in
/-- the kinds without items -/
theorem canP_plain (k : Int) (bo : Bool) (i : Int) (t ut ui : ByteArray) (A A2 : Option Addr) (l c l2 c2 : Nat) (items : List Val) (names : List ByteArray) (w : World) (h5 : k ≠ 5) (h6 : k ≠ 6) (hi : I64 i) (ht : t.size ≤ maxLen) (hut : ut.size ≤ maxLen) (hui : ui.size ≤ maxLen) :
    Calls Tryd.prog 24 #[.agg #[.int .i64 k, .bool bo, .int .i64 i, .string t, .string ut, .string ui, .slice A l c, .slice A2 l2 c2]] w
      (ValErr (Val.mk k bo i t ut ui items names).can.1 (Val.mk k bo i t ut ui items names).can.2 w) := by
  have hz : I64 0 := by constructor <;> omega
  have hx : Ext w ((w.alloc (.cells #[.int .i64 k, .bool bo, .int .i64 i, .string t, .string ut, .string ui, .slice A l c, .slice A2 l2 c2] 28))) := (Ext.refl w).alloc _
  have HX := Lib.hid hx
  have HI := Lib.hid hi
  have HZ := Lib.hid hz
  have HT := Lib.hid ht
  have HUt := Lib.hid hut
  have HUi := Lib.hid hui
  have hd : (Val.mk k bo i t ut ui items names).can = if k = 1 then (.mk 1 bo 0 empty empty empty [] [], 0) else if k = 2 then (.mk 2 false i empty empty empty [] [], 0) else if k = 3 then (.mk 3 false 0 t empty empty [] [], 0) else if k = 4 then (.mk 4 false 0 empty ut ui [] [], 0) else (.zero, 1) := by
    simp [Val.can, h5, h6]
  have HD := Lib.hid hd
  generalize (Val.mk k bo i t ut ui items names).can = res at *
  clear hx hi ht hut hui hd hz
  by_cases h1 : k = 1
  · have HR : Hid (res = (.mk 1 bo 0 empty empty empty [] [], 0)) := Lib.hid (by rw [HD.out, if_pos h1])
    subst h1
    clear h5 h6
    go_enter Tryd.func24, Tryd.ntmps24
    go_wp2
    rw [HR.out]
    exact bodyPost_ret (v := .tuple #[.agg #[.int .i64 1, .bool bo, .int .i64 0, .string ByteArray.empty, .string ByteArray.empty, .string ByteArray.empty, .slice none 0 0, .slice none 0 0], .int .i64 0]) (results_cell (cs := [.int .i64 1, .bool bo, .int .i64 0, .string ByteArray.empty, .string ByteArray.empty, .string ByteArray.empty, .slice none 0 0, .slice none 0 0]) Tryd.results24 rfl Tryd.agg27 Tryd.size27 rfl (cellsAt_new _ _ (by simp))) rfl ⟨_, rfl, Val.plain_at _ _ _ _ _ _ _ _ (by constructor <;> omega) HZ.out empty_le empty_le empty_le, HX.out.alloc _⟩
  by_cases h2 : k = 2
  · have HR : Hid (res = (.mk 2 false i empty empty empty [] [], 0)) := Lib.hid (by rw [HD.out, if_neg h1, if_pos h2])
    subst h2
    clear h5 h6 h1
    go_enter Tryd.func24, Tryd.ntmps24
    go_wp2
    rw [HR.out]
    exact bodyPost_ret (v := .tuple #[.agg #[.int .i64 2, .bool false, .int .i64 i, .string ByteArray.empty, .string ByteArray.empty, .string ByteArray.empty, .slice none 0 0, .slice none 0 0], .int .i64 0]) (results_cell (cs := [.int .i64 2, .bool false, .int .i64 i, .string ByteArray.empty, .string ByteArray.empty, .string ByteArray.empty, .slice none 0 0, .slice none 0 0]) Tryd.results24 rfl Tryd.agg27 Tryd.size27 rfl (cellsAt_new _ _ (by simp))) rfl ⟨_, rfl, Val.plain_at _ _ _ _ _ _ _ _ (by constructor <;> omega) HI.out empty_le empty_le empty_le, HX.out.alloc _⟩
  by_cases h3 : k = 3
  · have HR : Hid (res = (.mk 3 false 0 t empty empty [] [], 0)) := Lib.hid (by rw [HD.out, if_neg h1, if_neg h2, if_pos h3])
    subst h3
    clear h5 h6 h1 h2
    go_enter Tryd.func24, Tryd.ntmps24
    go_wp2
    rw [HR.out]
    exact bodyPost_ret (v := .tuple #[.agg #[.int .i64 3, .bool false, .int .i64 0, .string t, .string ByteArray.empty, .string ByteArray.empty, .slice none 0 0, .slice none 0 0], .int .i64 0]) (results_cell (cs := [.int .i64 3, .bool false, .int .i64 0, .string t, .string ByteArray.empty, .string ByteArray.empty, .slice none 0 0, .slice none 0 0]) Tryd.results24 rfl Tryd.agg27 Tryd.size27 rfl (cellsAt_new _ _ (by simp))) rfl ⟨_, rfl, Val.plain_at _ _ _ _ _ _ _ _ (by constructor <;> omega) HZ.out HT.out empty_le empty_le, HX.out.alloc _⟩
  by_cases h4 : k = 4
  · have HR : Hid (res = (.mk 4 false 0 empty ut ui [] [], 0)) := Lib.hid (by rw [HD.out, if_neg h1, if_neg h2, if_neg h3, if_pos h4])
    subst h4
    clear h5 h6 h1 h2 h3
    go_enter Tryd.func24, Tryd.ntmps24
    go_wp2
    rw [HR.out]
    exact bodyPost_ret (v := .tuple #[.agg #[.int .i64 4, .bool false, .int .i64 0, .string ByteArray.empty, .string ut, .string ui, .slice none 0 0, .slice none 0 0], .int .i64 0]) (results_cell (cs := [.int .i64 4, .bool false, .int .i64 0, .string ByteArray.empty, .string ut, .string ui, .slice none 0 0, .slice none 0 0]) Tryd.results24 rfl Tryd.agg27 Tryd.size27 rfl (cellsAt_new _ _ (by simp))) rfl ⟨_, rfl, Val.plain_at _ _ _ _ _ _ _ _ (by constructor <;> omega) HZ.out empty_le HUt.out HUi.out, HX.out.alloc _⟩
  have HR : Hid (res = (.zero, 1)) := Lib.hid (by rw [HD.out, if_neg h1, if_neg h2, if_neg h3, if_neg h4])
  have e1 : (k == 1) = false := by simpa using h1
  have e2 : (k == 2) = false := by simpa using h2
  have e3 : (k == 3) = false := by simpa using h3
  have e4 : (k == 4) = false := by simpa using h4
  have e5 : (k == 5) = false := by simpa using h5
  have e6 : (k == 6) = false := by simpa using h6
  clear h1 h2 h3 h4 h5 h6
  go_enter Tryd.func24, Tryd.ntmps24
  go_wp2
  rw [HR.out]
  exact bodyPost_ret (v := .tuple #[.agg zeroCells.toArray, .int .i64 1]) (results_cell Tryd.results24 rfl Tryd.agg27 Tryd.size27 rfl (cellsAt_new _ _ (by simp))) rfl ⟨zeroCells, rfl, Val.zero_at _ _, HX.out.alloc _⟩

theorem ext_of_below {base : Nat} {w a b : World} (h : Ext w a) (hb : w.heap.size ≤ base) (k : Below base a b) (hd : a.drawn ≤ b.drawn) : Ext w b := ⟨h.toBelow.trans (Below.mono k hb), Nat.le_trans h.drawn hd⟩
theorem itemsOf_bad {l : List Val} (h : (Val.itemsOf l).2 ≠ 0) : ((Val.cans l).2 ≠ 0 ∧ (Val.itemsOf l).2 = (Val.cans l).2) ∨ ((Val.cans l).2 = 0 ∧ 4096 < l.length ∧ (Val.itemsOf l).2 = 12) := by
  unfold Val.itemsOf at h ⊢
  by_cases h1 : (Val.cans l).2 ≠ 0
  · rw [if_pos h1]; exact .inl ⟨h1, rfl⟩
  · rw [if_neg h1] at h ⊢
    by_cases h2 : 4096 < l.length
    · rw [if_pos h2]; exact .inr ⟨by simpa using h1, h2, rfl⟩
    · rw [if_neg h2] at h; exact absurd rfl h
theorem itemsOf_good {l : List Val} (h : (Val.itemsOf l).2 = 0) : (Val.cans l).2 = 0 ∧ ¬ 4096 < l.length ∧ (Val.itemsOf l).1 = (Val.cans l).1 := by
  unfold Val.itemsOf at h ⊢
  by_cases h1 : (Val.cans l).2 ≠ 0
  · rw [if_pos h1] at h; exact absurd h h1
  · rw [if_neg h1] at h ⊢
    by_cases h2 : 4096 < l.length
    · rw [if_pos h2] at h; cases h
    · rw [if_neg h2]; exact ⟨by simpa using h1, h2, rfl⟩

set_option maxRecDepth 100000 in
set_option maxHeartbeats 1600000 in
/-- a set -/
theorem canP5_ok (bo : Bool) (i : Int) (t ut ui : ByteArray) (items : List Val) (names : List ByteArray) (S : Nat → Prop) (w : World) (A A2 : Option Addr) (cap cap2 : Nat)
    (hS : ∀ b, S b → b < w.heap.size) (ha : Val.At S w (.mk 5 bo i t ut ui items names) [.int .i64 5, .bool bo, .int .i64 i, .string t, .string ut, .string ui, .slice A items.length cap, .slice A2 names.length cap2])
    (hc : ∀ x ∈ items, ∀ (w1 : World) (cx : List Value), (∀ b, S b → b < w1.heap.size) → Val.At S w1 x cx → Calls Tryd.prog 24 #[.agg cx.toArray] w1 (ValErr x.can.1 x.can.2 w1)) :
    Calls Tryd.prog 24 #[.agg #[.int .i64 5, .bool bo, .int .i64 i, .string t, .string ut, .string ui, .slice A items.length cap, .slice A2 names.length cap2]] w
      (ValErr (Val.mk 5 bo i t ut ui items names).can.1 (Val.mk 5 bo i t ut ui items names).can.2 w) := by
  have hva := ha.vals
  have HS := Lib.hid hS
  have HC := Lib.hid hc
  have HV := Lib.hid hva
  have HD := Lib.hid (Val.can5 bo i t ut ui items names)
  generalize (Val.mk 5 bo i t ut ui items names).can = res at *
  clear hS hc hva ha
  go_enter Tryd.func24, Tryd.ntmps24
  go_wp2_with fail
  generalize hW0 : (w.alloc (.cells #[.int .i64 5, .bool bo, .int .i64 i, .string t, .string ut, .string ui, .slice A items.length cap, .slice A2 names.length cap2] 28)).alloc (.cells #[.int .i64 0, .bool false, .int .i64 0, .string ⟨#[]⟩, .string ⟨#[]⟩, .string ⟨#[]⟩, .slice none 0 0, .slice none 0 0] 28) = W0
  have HW : Hid (Ext w W0) := Lib.hid (by rw [← hW0]; exact ((Ext.refl w).alloc _).alloc _)
  have HB1 : Hid (W0.heap[w.heap.size + 1]? = some (.cells zeroCells.toArray 28 (0, 0))) := Lib.hid (by rw [← hW0]; exact heap_alloc_at (by simp) _)
  have HS0 : Hid (W0.heap.size = w.heap.size + 2) := Lib.hid (by rw [← hW0]; simp)
  have HSW : Hid (∀ b, S b → b < W0.heap.size) := Lib.hid fun b hb => Nat.lt_of_lt_of_le (HS.out b hb) HW.out.size
  clear hW0
  refine (items_ok S items _ W0 HSW.out (HV.out.alike (Alike.of_ext HW.out HS.out)) HC.out).mono ?_
  rintro e w1 ⟨v1, rfl, ⟨xs, hown, hflat⟩, hx1⟩
  obtain ⟨A1, cap1, rfl⟩ := own_shape hown
  have HX1 := Lib.hid hx1
  have Ho := Lib.hid hown
  have Hf := Lib.hid hflat
  have hcell := (hx1.block _ (Blk_lt HB1.out)).trans HB1.out
  have HB1' := Lib.hid hcell
  clear hx1 hown hflat hcell
  by_cases he : (Val.itemsOf items).2 = 0
  · have e0 : ((Val.itemsOf items).2 != 0) = false := by simpa using he
    obtain ⟨hc0, hl0, hit⟩ := itemsOf_good he
    have hlen := Val.cans_length hc0
    have hr : res = (.mk 5 false 0 empty empty empty (sortU Val.ord (Val.cans items).1) [], 0) := by rw [HD.out]; simp [hc0, hl0]
    have HR := Lib.hid hr
    have hIs : ∀ x ∈ (Val.itemsOf items).1, x.Is := fun x hx => by
      rw [hit] at hx
      obtain ⟨y, hy, e⟩ := Val.cans_mem hc0 x hx
      have := Val.can_is (v := y) (by rw [e])
      rwa [e] at this
    have HIs := Lib.hid hIs
    have hll : (Val.itemsOf items).1.length ≤ 4096 := by rw [hit, hlen]; omega
    have Hll := Lib.hid hll
    have Hit := Lib.hid hit
    clear hc0 hl0 hit hlen hr he hIs hll
    generalize (Val.itemsOf items).1 = l1 at *
    generalize (Val.itemsOf items).2 = er at *
    go_wp2_with fail
    refine (sortV_ok W0.heap.size w1 _ l1 xs Ho.out Hf.out (by have := Hll.out; rw [LIM_eq]; omega)).mono ?_
    rintro e w2 ⟨rfl, l2, xs2, hperm, hpw, hown2, hflat2, hbel, hdr⟩
    have Hp := Lib.hid hperm
    have Hpw := Lib.hid hpw
    have hl2 := hperm.length_eq
    rw [hl2] at hown2
    have Ho2 := Lib.hid hown2
    have Hf2 := Lib.hid hflat2
    have HX2 : Hid (Ext W0 w2) := Lib.hid (ext_of_below HX1.out (Nat.le_refl _) hbel hdr)
    have Hl2 := Lib.hid hl2
    clear hperm hpw hown2 hflat2 hbel hdr hl2
    go_wp2_with fail
    refine (compactV_ok W0.heap.size w2 _ l2 xs2 (by rw [Hl2.out]; exact Ho2.out) Hf2.out (by rw [Hl2.out]; have := Hll.out; rw [LIM_eq]; omega)).mono ?_
    rintro e w3 ⟨v3, rfl, xs3, hown3, hflat3, hbel, hdr⟩
    have hx3 : Ext W0 w3 := ext_of_below HX2.out (Nat.le_refl _) hbel hdr
    have hde : dedup Val.ord l2 = sortU Val.ord l1 := dedup_sorted Val.goodAt (P := Val.Is) (fun x y hx hy h0 => Val.eq_ord hx hy h0) HIs.out Hp.out Hpw.out
    rw [hde] at hown3 hflat3
    obtain ⟨A3, cap3, rfl⟩ := own_shape hown3
    have hv3 := own_vals (S' := Fresh W0.heap.size w3) hown3 hflat3 (by have := sortV_len l1; have := Hll.out; rw [LIM_eq]; omega) (fun b hb => ⟨hb.1, hb.2.1⟩) (fun b hb => hown3.lt b hb)
    have HV3 := Lib.hid hv3
    have HX3 := Lib.hid hx3
    have hcell := (hx3.block _ (Blk_lt HB1.out)).trans HB1.out
    have HCl := Lib.hid hcell
    clear hown3 hflat3 hbel hdr hx3 hde hv3 hcell
    go_wp2_with (refine wpList_store_cells rfl 28 _ _ rfl (w.heap.size + 1) 0 rfl [.int .i64 5, .bool false, .int .i64 0, .string ByteArray.empty, .string ByteArray.empty, .string ByteArray.empty, .slice A3 (sortU Val.ord l1).length cap3, .slice none 0 0] rfl Tryd.size27 rfl 28 zeroCells.toArray HCl.out (by simp [zeroCells]) (by intro u hu; simp at hu; rcases hu with rfl | rfl | rfl | rfl | rfl | rfl <;> rfl) ?_)
    rw [HR.out, ← Hit.out]
    refine bodyPost_ret (v := .tuple #[.agg #[.int .i64 5, .bool false, .int .i64 0, .string ByteArray.empty, .string ByteArray.empty, .string ByteArray.empty, .slice A3 (sortU Val.ord l1).length cap3, .slice none 0 0], .int .i64 0]) (results_cell Tryd.results24 rfl Tryd.agg27 Tryd.size27 rfl (cellsAt_setRow HCl.out (by simp [zeroCells]))) rfl ⟨[.int .i64 5, .bool false, .int .i64 0, .string ByteArray.empty, .string ByteArray.empty, .string ByteArray.empty, .slice A3 (sortU Val.ord l1).length cap3, .slice none 0 0], rfl, ?_, (HW.out.trans HX3.out).setRow (by omega) _⟩
    refine ((Val.set_at HV3.out).alike (w' := w3.setRow (w.heap.size + 1) _) (fun b hb => (GrownBy.setRow w3 (w.heap.size + 1) _).block b hb.2 (fun e => by injection e with e; have := hb.1; have := HS0.out; omega))).mono fun b hb => ⟨by have := hb.1; have := HS0.out; omega, by simpa [World.setRow] using hb.2⟩
  · have e0 : ((Val.itemsOf items).2 != 0) = true := by simpa using he
    have hr : res = (.zero, (Val.itemsOf items).2) := by
      rw [HD.out]
      rcases itemsOf_bad he with ⟨h1, h2⟩ | ⟨h1, h2, h3⟩
      · rw [if_pos h1, h2]
      · rw [if_neg (by simp [h1]), if_pos h2, h3]
    have HR := Lib.hid hr
    clear hr he
    generalize (Val.itemsOf items).1 = l1 at *
    generalize (Val.itemsOf items).2 = er at *
    go_wp2_with (refine wpList_store_cells rfl 28 _ _ rfl (w.heap.size + 1) 0 rfl zeroCells rfl Tryd.size27 rfl 28 zeroCells.toArray HB1'.out (by simp [zeroCells]) zero_one ?_)
    rw [HR.out]
    exact bodyPost_ret (v := .tuple #[.agg zeroCells.toArray, .int .i64 er]) (results_cell Tryd.results24 rfl Tryd.agg27 Tryd.size27 rfl (cellsAt_setRow HB1'.out (by simp [zeroCells]))) rfl ⟨zeroCells, rfl, Val.zero_at _ _, (HW.out.trans HX1.out).setRow (by omega) _⟩

set_option maxRecDepth 100000 in
set_option maxHeartbeats 1600000 in
/-- a record -/
theorem canP6_ok (bo : Bool) (i : Int) (t ut ui : ByteArray) (items : List Val) (names : List ByteArray) (S : Nat → Prop) (w : World) (A A2 : Option Addr) (cap cap2 : Nat)
    (hS : ∀ b, S b → b < w.heap.size) (ha : Val.At S w (.mk 6 bo i t ut ui items names) [.int .i64 6, .bool bo, .int .i64 i, .string t, .string ut, .string ui, .slice A items.length cap, .slice A2 names.length cap2])
    (hc : ∀ x ∈ items, ∀ (w1 : World) (cx : List Value), (∀ b, S b → b < w1.heap.size) → Val.At S w1 x cx → Calls Tryd.prog 24 #[.agg cx.toArray] w1 (ValErr x.can.1 x.can.2 w1)) :
    Calls Tryd.prog 24 #[.agg #[.int .i64 6, .bool bo, .int .i64 i, .string t, .string ut, .string ui, .slice A items.length cap, .slice A2 names.length cap2]] w
      (ValErr (Val.mk 6 bo i t ut ui items names).can.1 (Val.mk 6 bo i t ut ui items names).can.2 w) := by
  have hva := ha.vals
  have hsa := ha.strs
  have HS := Lib.hid hS
  have HC := Lib.hid hc
  have HV := Lib.hid hva
  have HN := Lib.hid hsa
  have HD := Lib.hid (Val.can6 bo i t ut ui items names)
  have hl1 : items.length ≤ 1073741824 := by obtain ⟨_, _, _, ⟨h, _⟩, _⟩ := hva; rwa [LIM_eq] at h
  have hl2 : names.length ≤ 1073741824 := by obtain ⟨_, _, _, h, _⟩ := hsa; rwa [LIM_eq] at h
  generalize (Val.mk 6 bo i t ut ui items names).can = res at *
  clear hS hc hva ha hsa
  by_cases hnl : names.length = items.length
  · have t0 : ((names.length : Int) != items.length) = false := by simp; omega
    have HNL := Lib.hid hnl
    clear hnl
    go_enter Tryd.func24, Tryd.ntmps24
    go_wp2_with fail
    clear t0
    generalize hW0 : (w.alloc (.cells #[.int .i64 6, .bool bo, .int .i64 i, .string t, .string ut, .string ui, .slice A items.length cap, .slice A2 names.length cap2] 28)).alloc (.cells #[.int .i64 0, .bool false, .int .i64 0, .string ⟨#[]⟩, .string ⟨#[]⟩, .string ⟨#[]⟩, .slice none 0 0, .slice none 0 0] 28) = W0
    have HW : Hid (Ext w W0) := Lib.hid (by rw [← hW0]; exact ((Ext.refl w).alloc _).alloc _)
    have HB0 : Hid (W0.heap[w.heap.size]? = some (.cells #[.int .i64 6, .bool bo, .int .i64 i, .string t, .string ut, .string ui, .slice A items.length cap, .slice A2 names.length cap2] 28 (0, 0))) := Lib.hid (by rw [← hW0, Below.heap_alloc _ _ _ (by simp)]; exact heap_alloc_at rfl _)
    have HB1 : Hid (W0.heap[w.heap.size + 1]? = some (.cells zeroCells.toArray 28 (0, 0))) := Lib.hid (by rw [← hW0]; exact heap_alloc_at (by simp) _)
    have HS0 : Hid (W0.heap.size = w.heap.size + 2) := Lib.hid (by rw [← hW0]; simp)
    have HSW : Hid (∀ b, S b → b < W0.heap.size) := Lib.hid fun b hb => Nat.lt_of_lt_of_le (HS.out b hb) HW.out.size
    clear hW0
    refine (items_ok S items _ W0 HSW.out (HV.out.alike (Alike.of_ext HW.out HS.out)) HC.out).mono ?_
    rintro e w1 ⟨v1, rfl, ⟨xs, hown, hflat⟩, hx1⟩
    obtain ⟨A1, cap1, rfl⟩ := own_shape hown
    have HX1 := Lib.hid hx1
    have Ho := Lib.hid hown
    have Hf := Lib.hid hflat
    have hcell := (hx1.block _ (Blk_lt HB1.out)).trans HB1.out
    have HB1' := Lib.hid hcell
    have c7 : w1.cell? ⟨w.heap.size, 7, none⟩ = some (.slice A2 names.length cap2) := by rw [cell_of_row _ _ _ _ _ _ ((hx1.block _ (Blk_lt HB0.out)).trans HB0.out)]; rfl
    clear hx1 hown hflat hcell
    by_cases he : (Val.itemsOf items).2 = 0
    · have e0 : ((Val.itemsOf items).2 != 0) = false := by simpa using he
      obtain ⟨hc0, hl0, hit⟩ := itemsOf_good he
      have hlen := Val.cans_length hc0
      have hr : res = record names (Val.itemsOf items).1 := by rw [HD.out, hit]; simp [hc0, hl0, HNL.out]
      have hll : (Val.itemsOf items).1.length = items.length := by rw [hit, hlen]
      have Hll := Lib.hid hll
      have HR := Lib.hid hr
      have Hl0 := Lib.hid hl0
      clear hc0 hl0 hit hlen hr he hll
      generalize (Val.itemsOf items).1 = l1 at *
      generalize (Val.itemsOf items).2 = er at *
      have hv1 := own_vals (S' := Fresh W0.heap.size w1) Ho.out Hf.out (by have := Hll.out; have := Hl0.out; rw [LIM_eq]; omega) (fun b hb => ⟨hb.1, hb.2.1⟩) (fun b hb => Ho.out.lt b hb)
      have HV1 := Lib.hid hv1
      clear hv1
      go_wp2_with fail
      refine (record_ok (Fresh W0.heap.size w1) S names _ l1 _ w1 (fun b hb => hb.2) (fun b hb => Nat.lt_of_lt_of_le (HSW.out b hb) HX1.out.size) (HN.out.alike (Alike.of_ext (HW.out.trans HX1.out) HS.out)) HV1.out (by rw [Hll.out, HNL.out]) (by have := Hll.out; have := Hl0.out; omega)).mono ?_
      rintro e w3 ⟨cs, rfl, hat, hx3⟩
      obtain ⟨k1, b1, n1, t1, ut1, ui1, A3, l3, c3, A4, l4, c4, rfl⟩ := hat.shape
      have HA := Lib.hid hat
      have HX3 := Lib.hid hx3
      have hcell := (hx3.block _ (Blk_lt HB1'.out)).trans HB1'.out
      have HCl := Lib.hid hcell
      have hone := hat.one
      have HOne := Lib.hid hone
      clear hat hx3 hcell hone c7
      generalize hrr : record names l1 = rr at *
      have HRR := Lib.hid hrr
      clear hrr
      go_wp2_with (refine wpList_store_cells rfl 28 _ _ rfl (w.heap.size + 1) 0 rfl [.int .i64 k1, .bool b1, .int .i64 n1, .string t1, .string ut1, .string ui1, .slice A3 l3 c3, .slice A4 l4 c4] rfl Tryd.size27 rfl 28 zeroCells.toArray HCl.out (by simp [zeroCells]) HOne.out ?_)
      rw [HR.out]
      refine bodyPost_ret (v := .tuple #[.agg #[.int .i64 k1, .bool b1, .int .i64 n1, .string t1, .string ut1, .string ui1, .slice A3 l3 c3, .slice A4 l4 c4], .int .i64 rr.2]) (results_cell Tryd.results24 rfl Tryd.agg27 Tryd.size27 rfl (cellsAt_setRow HCl.out (by simp [zeroCells]))) rfl ⟨[.int .i64 k1, .bool b1, .int .i64 n1, .string t1, .string ut1, .string ui1, .slice A3 l3 c3, .slice A4 l4 c4], rfl, ?_, ((HW.out.trans HX1.out).trans HX3.out).setRow (by omega) _⟩
      have hlow : ∀ b, Fresh W0.heap.size w1 b ∨ Fresh w1.heap.size w3 b → w.heap.size + 2 ≤ b ∧ b < w3.heap.size := fun b hb => by
        have h1 := HS0.out
        have h2 := HX1.out.size
        have h3 := HX3.out.size
        rcases hb with hb | hb
        · exact ⟨by have := hb.1; omega, by have := hb.2; omega⟩
        · exact ⟨by have := hb.1; omega, hb.2⟩
      refine (HA.out.alike (w' := w3.setRow (w.heap.size + 1) _) (fun b hb => (GrownBy.setRow w3 (w.heap.size + 1) _).block b (hlow b hb).2 (fun e => by injection e with e; have := (hlow b hb).1; omega))).mono fun b hb => ⟨by have := (hlow b hb).1; omega, by simpa [World.setRow] using (hlow b hb).2⟩
    · have e0 : ((Val.itemsOf items).2 != 0) = true := by simpa using he
      have hr : res = (.zero, (Val.itemsOf items).2) := by
        rw [HD.out, if_neg (by simp [HNL.out])]
        rcases itemsOf_bad he with ⟨h1, h2⟩ | ⟨h1, h2, h3⟩
        · rw [if_pos h1, h2]
        · rw [if_neg (by simp [h1]), if_pos h2, h3]
      have HR := Lib.hid hr
      clear hr he c7
      generalize (Val.itemsOf items).1 = l1 at *
      generalize (Val.itemsOf items).2 = er at *
      go_wp2_with (refine wpList_store_cells rfl 28 _ _ rfl (w.heap.size + 1) 0 rfl zeroCells rfl Tryd.size27 rfl 28 zeroCells.toArray HB1'.out (by simp [zeroCells]) zero_one ?_)
      rw [HR.out]
      exact bodyPost_ret (v := .tuple #[.agg zeroCells.toArray, .int .i64 er]) (results_cell Tryd.results24 rfl Tryd.agg27 Tryd.size27 rfl (cellsAt_setRow HB1'.out (by simp [zeroCells]))) rfl ⟨zeroCells, rfl, Val.zero_at _ _, (HW.out.trans HX1.out).setRow (by omega) _⟩
  · have t0 : ((names.length : Int) != items.length) = true := by simp; omega
    have hr : res = (.zero, 1) := by rw [HD.out, if_pos hnl]
    have HR := Lib.hid hr
    clear hnl hr
    go_enter Tryd.func24, Tryd.ntmps24
    go_wp2_with fail
    rw [HR.out]
    exact bodyPost_ret (v := .tuple #[.agg zeroCells.toArray, .int .i64 1]) (results_cell Tryd.results24 rfl Tryd.agg27 Tryd.size27 rfl (cellsAt_new _ _ (by simp))) rfl ⟨zeroCells, rfl, Val.zero_at _ _, ((Ext.refl w).alloc _).alloc _⟩

set_option maxHeartbeats 400000 in
theorem canP_ok (n : Nat) : ∀ (v : Val) (S : Nat → Prop) (w : World) (cs : List Value), SizeOf.sizeOf v ≤ n → (∀ b, S b → b < w.heap.size) → Val.At S w v cs →
    Calls Tryd.prog 24 #[.agg cs.toArray] w (ValErr v.can.1 v.can.2 w) := by
  induction n with
  | zero => intro v; cases v; simp
  | succ n ih =>
    intro v S w cs hn hS ha
    cases v with
    | mk k bo i t ut ui items names =>
    have hA := ha
    unfold Val.At at ha
    obtain ⟨A, cap, nv, rfl, ⟨hk, hi, h1, h2, h3⟩, _, _, A2, cap2, rfl, _⟩ := ha
    have hm : ∀ x ∈ items, ∀ (w1 : World) (cx : List Value), (∀ b, S b → b < w1.heap.size) → Val.At S w1 x cx → Calls Tryd.prog 24 #[.agg cx.toArray] w1 (ValErr x.can.1 x.can.2 w1) :=
      fun x hx w1 cx hs hx1 => ih x S w1 cx (by have := List.sizeOf_lt_of_mem hx; simp at hn; omega) hs hx1
    by_cases h5 : k = 5
    · subst h5; exact canP5_ok bo i t ut ui items names S w A A2 cap cap2 hS hA hm
    by_cases h6 : k = 6
    · subst h6; exact canP6_ok bo i t ut ui items names S w A A2 cap cap2 hS hA hm
    exact canP_plain k bo i t ut ui A A2 _ cap _ cap2 items names w h5 h6 hi h1 h2 h3
end Go.Proofs.YtebfoimbdljbmaaDoor

/-
  What the reference's canon, and both Canons, come to: the same plain function. The conditions: the value is not deeper than a million.
-/
namespace Go.Proofs.YtebfoimbdljbmaaDoor
open Go.RowKit


set_option maxRecDepth 100000 in
set_option maxHeartbeats 400000 in
theorem canon_okP (v : Val) (S : Nat → Prop) (w : World) (cs : List Value) (hd : v.dep ≤ 1000000) (hS : ∀ b, S b → b < w.heap.size) (ha : Val.At S w v cs) :
    Calls Tryd.prog 15 #[.agg cs.toArray] w (ValErr v.canon.1 v.canon.2 w) := by
  obtain ⟨k1, b1, n1, t1, ut1, ui1, A1, l1, c1, A2, l2, c2, rfl⟩ := ha.shape
  have HS := Lib.hid hS
  have Ha := Lib.hid ha
  have HD := Lib.hid (show v.canon = if 50 < v.dep then (.zero, 11) else v.can from rfl)
  have hd0 := v.dep_pos
  generalize v.canon = res at *
  clear hS ha
  have HX0 : Hid (Ext w ((w.alloc (.cells #[.int .i64 k1, .bool b1, .int .i64 n1, .string t1, .string ut1, .string ui1, .slice A1 l1 c1, .slice A2 l2 c2] 28)).alloc (.cells #[.int .i64 0, .bool false, .int .i64 0, .string ⟨#[]⟩, .string ⟨#[]⟩, .string ⟨#[]⟩, .slice none 0 0, .slice none 0 0] 28))) := Lib.hid (((Ext.refl w).alloc _).alloc _)
  go_enter Tryd.func15, Tryd.ntmps15
  go_wp2_with fail
  generalize hW0 : (w.alloc (.cells #[.int .i64 k1, .bool b1, .int .i64 n1, .string t1, .string ut1, .string ui1, .slice A1 l1 c1, .slice A2 l2 c2] 28)).alloc (.cells #[.int .i64 0, .bool false, .int .i64 0, .string ⟨#[]⟩, .string ⟨#[]⟩, .string ⟨#[]⟩, .slice none 0 0, .slice none 0 0] 28) = W0 at *
  have HB0 : Hid (W0.heap[w.heap.size]? = some (.cells #[.int .i64 k1, .bool b1, .int .i64 n1, .string t1, .string ut1, .string ui1, .slice A1 l1 c1, .slice A2 l2 c2] 28 (0, 0))) := Lib.hid (by rw [← hW0, Below.heap_alloc _ _ _ (by simp)]; exact heap_alloc_at rfl _)
  have HB1 : Hid (W0.heap[w.heap.size + 1]? = some (.cells zeroCells.toArray 28 (0, 0))) := Lib.hid (by rw [← hW0]; exact heap_alloc_at (by simp) _)
  have HS0 : Hid (W0.heap.size = w.heap.size + 2) := Lib.hid (by rw [← hW0]; simp)
  clear hW0
  refine (depth_okP _ v S _ [.int .i64 k1, .bool b1, .int .i64 n1, .string t1, .string ut1, .string ui1, .slice A1 l1 c1, .slice A2 l2 c2] (Nat.le_refl _) (by omega) (fun b hb => Nat.lt_of_lt_of_le (HS.out b hb) HX0.out.size) (Ha.out.alike (Alike.of_ext HX0.out HS.out))).mono ?_
  rintro e w1 ⟨rfl, hx1⟩
  have HX1 := Lib.hid hx1
  have hcell := (hx1.block _ (Blk_lt HB1.out)).trans HB1.out
  have HB1' := Lib.hid hcell
  have hbox := (hx1.block _ (Blk_lt HB0.out)).trans HB0.out
  have HB0' := Lib.hid hbox
  clear hx1 hcell hbox
  by_cases h50 : 50 < v.dep
  · have t0 : decide ((50 : Int) < v.dep) = true := by simp; omega
    have HR : Hid (res = (.zero, 11)) := Lib.hid (by rw [HD.out, if_pos h50])
    clear h50
    go_wp2_with (refine wpList_store_cells rfl 28 _ _ rfl (w.heap.size + 1) 0 rfl zeroCells rfl Tryd.size27 rfl 28 zeroCells.toArray HB1'.out (by simp [zeroCells]) zero_one ?_)
    rw [HR.out]
    exact bodyPost_ret (v := .tuple #[.agg zeroCells.toArray, .int .i64 11]) (results_cell Tryd.results15 rfl Tryd.agg27 Tryd.size27 rfl (cellsAt_setRow HB1'.out (by simp [zeroCells]))) rfl ⟨zeroCells, rfl, Val.zero_at _ _, (HX0.out.trans HX1.out).setRow (by omega) _⟩
  · have t0 : decide ((50 : Int) < v.dep) = false := by simp; omega
    have HR : Hid (res = v.can) := Lib.hid (by rw [HD.out, if_neg h50])
    clear h50
    go_wp2_with (refine wpList_load_cells rfl 28 _ rfl w.heap.size 0 rfl Tryd.agg27 Tryd.size27 rfl (fun j v hj => by rw [cell_of_row _ _ _ _ _ _ HB0'.out, Nat.zero_add]; simpa using hj) ?_)
    refine (canP_ok _ v S _ [.int .i64 k1, .bool b1, .int .i64 n1, .string t1, .string ut1, .string ui1, .slice A1 l1 c1, .slice A2 l2 c2] (Nat.le_refl _) (fun b hb => Nat.lt_of_lt_of_le (HS.out b hb) (HX0.out.trans HX1.out).size) (Ha.out.alike (Alike.of_ext (HX0.out.trans HX1.out) HS.out))).mono ?_
    rintro e w3 ⟨cs, rfl, hat, hx3⟩
    obtain ⟨k3, b3, n3, t3, ut3, ui3, A3, l3, c3, A4, l4, c4, rfl⟩ := hat.shape
    have HA := Lib.hid hat
    have HX3 := Lib.hid hx3
    have hcell := (hx3.block _ (Blk_lt HB1'.out)).trans HB1'.out
    have HCl := Lib.hid hcell
    have hone := hat.one
    have HOne := Lib.hid hone
    clear hat hx3 hcell hone
    rw [← HR.out] at HA
    generalize hq : v.can.2 = q
    have HQ : Hid (res.2 = q) := Lib.hid (by rw [HR.out]; exact hq)
    clear hq
    go_wp2_with (refine wpList_store_cells rfl 28 _ _ rfl (w.heap.size + 1) 0 rfl [.int .i64 k3, .bool b3, .int .i64 n3, .string t3, .string ut3, .string ui3, .slice A3 l3 c3, .slice A4 l4 c4] rfl Tryd.size27 rfl 28 zeroCells.toArray HCl.out (by simp [zeroCells]) HOne.out ?_)
    rw [HQ.out]
    refine bodyPost_ret (v := .tuple #[.agg #[.int .i64 k3, .bool b3, .int .i64 n3, .string t3, .string ut3, .string ui3, .slice A3 l3 c3, .slice A4 l4 c4], .int .i64 q]) (results_cell Tryd.results15 rfl Tryd.agg27 Tryd.size27 rfl (cellsAt_setRow HCl.out (by simp [zeroCells]))) rfl ⟨[.int .i64 k3, .bool b3, .int .i64 n3, .string t3, .string ut3, .string ui3, .slice A3 l3 c3, .slice A4 l4 c4], rfl, ?_, ((HX0.out.trans HX1.out).trans HX3.out).setRow (by omega) _⟩
    have hlow : w.heap.size + 2 ≤ w1.heap.size := by have := HS0.out; have := HX1.out.size; omega
    refine (HA.out.alike (w' := w3.setRow (w.heap.size + 1) _) (fun b hb => (GrownBy.setRow w3 (w.heap.size + 1) _).block b hb.2 (fun e => by injection e with e; have := hb.1; omega))).mono fun b hb => ⟨by have := hb.1; omega, by simpa [World.setRow] using hb.2⟩
end Go.Proofs.YtebfoimbdljbmaaDoor

/-
  What the program's Canon of entities comes to. The conditions: the entities lie in memory as they should, none is nested deeper than a million.
-/
namespace Go.Proofs.YtebfoimbdljbmaaDoor
open Go.RowKit

/-! ### what is taken so far -/
theorem oneE_good {us : List Uid} {x : Ent} (h : x.av.kind = 6) (hb : x.av.canon.2 = 0) (hp : x.ps.any (fun p => !(idx us p).isSome) = false) : oneE us x = (⟨x.uid, sortU ordU x.ps, x.av.canon.1⟩, 0) := by
  have : x.ps.all (fun p => (idx us p).isSome) = true := by
    rw [List.all_eq_true]
    intro p hp1
    have := (List.any_eq_false.1 hp) p hp1
    cases hi : idx us p with
    | none => rw [hi] at this; simp at this
    | some i => rfl
  simp only [oneE, h, hb, this]; rfl

/-- the cells of an entity that is laid -/
def entCells (u : Uid) (v : Value) (av : List Value) : List Value := .string u.1 :: .string u.2 :: v :: av
/-- its parents, sorted and without repeats -/
def CompE (cB : Nat) (w7 : World) (d : List Uid) (v : Value) (W : World) : Prop :=
  Below cB w7 W ∧ w7.drawn ≤ W.drawn ∧ ∃ xs', W.ownsRow cB 24 2 v d.length xs' ∧ uidR.Flat (fun _ => True) W d xs'
/-- one entity more: how far -/
def StageE (cB : Nat) (w7 : World) (d : List Uid) (u : Uid) (av : List Value) (base : Nat) (out : Value) (n : Nat) (xs : List Value) : List Value → World → Prop
  | [], W => Ext w7 W
  | [v1], W => CompE cB w7 d v1 W
  | [v1, e], W => CompE cB w7 d v1 W ∧ e = .agg (entCells u v1 av).toArray
  | [v1, e, bl], W => ∃ W1, CompE cB w7 d v1 W1 ∧ e = .agg (entCells u v1 av).toArray ∧ bl = .slice (some ⟨W1.heap.size, 0, none⟩) 1 1 ∧ W = W1.alloc (.cells (entCells u v1 av).toArray 115)
  | [v1, _, _, v2], W => ∃ W1, CompE cB w7 d v1 W1 ∧ W.ownsRow base 115 11 v2 (n + 1) (xs ++ entCells u v1 av) ∧ GrownBy (W1.alloc (.cells (entCells u v1 av).toArray 115)) W out.ownBlock ∧
      (v2.ownBlock = out.ownBlock ∨ v2.ownBlock = some (W1.alloc (.cells (entCells u v1 av).toArray 115)).heap.size)
  | _, _ => False

theorem StageE.old {cB : Nat} {w7 : World} {d : List Uid} {u : Uid} {av : List Value} {base : Nat} {out : Value} {n : Nat} {xs vs : List Value} {W : World} (h : StageE cB w7 d u av base out n xs vs W) {c1 : Nat} (hb : ∀ b, out.ownBlock = some b → b < c1) (hc : cB ≤ w7.heap.size) :
    ∀ b, c1 ≤ b → b < cB → W.heap[b]? = w7.heap[b]? := by
  intro b h1 h2
  match vs, h with
  | [], h => exact (show Ext w7 W from h).block b (by omega)
  | [v1], h => exact h.1.block b h2
  | [v1, e], h => exact h.1.1.block b h2
  | [v1, e, bl], ⟨W1, hk, _, _, e'⟩ =>
    subst e'
    rw [heap_alloc_old _ _ (Nat.lt_of_lt_of_le (Nat.lt_of_lt_of_le h2 hc) hk.1.size)]
    exact hk.1.block b h2
  | [v1, e, bl, v2], ⟨W1, hk, _, hg, _⟩ =>
    have h3 : b < W1.heap.size := Nat.lt_of_lt_of_le (Nat.lt_of_lt_of_le h2 hc) hk.1.size
    rw [hg.block b (by simp; omega) (fun e => by have := hb b e.symm; omega), heap_alloc_old _ _ h3]
    exact hk.1.block b h2
  | _ :: _ :: _ :: _ :: _ :: _, h => exact h.elim

end Go.Proofs.YtebfoimbdljbmaaDoor

/-
  Entities one above the other: what is to be told of them. No program in sight. The conditions: none (definitions and lemmas).
-/
namespace Go.Proofs.YtebfoimbdljbmaaDoor
open Go.RowKit

def abc : ByteArray := ⟨#[97, 98, 99, 100, 101, 102, 103, 104, 105, 106, 107, 108]⟩
def cN (i : Nat) : ByteArray := abc.extract i (i + 1)
def tU : ByteArray := ⟨#[85]⟩
def tA : ByteArray := ⟨#[97]⟩
def recV : Val := .mk 6 false 0 empty empty empty [] []
section
variable {k : Nat} {close missing : Bool} {m : List Ent}
end
end Go.Proofs.YtebfoimbdljbmaaDoor

/-
  Entities as they must be: their order does not matter, nor do their parents'; told again they stay as they are. No program in sight. The conditions: none (definitions and lemmas).
-/
namespace Go.Proofs.YtebfoimbdljbmaaDoor

/-- one that is as it should be -/
def GoodE (us : List Uid) (e : Ent) : Prop := e.av.kind = 6 ∧ e.av.canon.2 = 0 ∧ ∀ p ∈ e.ps, p ∈ us
def putE (e : Ent) : Ent := ⟨e.uid, sortU ordU e.ps, e.av.canon.1⟩
theorem oneE_of {us : List Uid} {e : Ent} (h : GoodE us e) : oneE us e = (putE e, 0) := by
  refine oneE_good h.1 h.2.1 (List.any_eq_false.2 fun p hp => ?_)
  obtain ⟨i, hi⟩ := idx_mem.1 (h.2.2 p hp)
  rw [hi]; simp
theorem onesE_of {us : List Uid} : ∀ {l : List Ent}, (∀ e ∈ l, GoodE us e) → onesE us l = (l.map putE, 0)
  | [], _ => rfl
  | e :: r, h => by
    have h1 := oneE_of (h e (by simp))
    have h2 := onesE_of (l := r) fun x hx => h x (by simp [hx])
    simp [onesE, h1, h2]
/-- entities that are not refused -/
structure Good (l : List Ent) : Prop where
  len : l.length ≤ 4096
  names : (l.map Ent.uid).Nodup
  ones : ∀ e ∈ l, GoodE (l.map Ent.uid) e
  round : ¬ Rounded l
theorem canonE_of {l : List Ent} (h : Good l) : canonE l = (sortU cmpE (l.map putE), 0) := by
  unfold canonE
  rw [if_neg (by have := h.len; omega), if_neg (fun k => k h.names), onesE_of h.ones, if_neg (by simp), if_neg h.round]
/-! ### the same, in another order -/
structure Alter (l m : List Ent) : Prop where
  len : m.length = l.length
  names : (m.map Ent.uid).Perm (l.map Ent.uid)
  there : ∀ e ∈ l, ∃ f ∈ m, f.uid = e.uid ∧ f.av = e.av ∧ ∀ p, p ∈ f.ps ↔ p ∈ e.ps
  back : ∀ f ∈ m, ∃ e ∈ l, f.uid = e.uid ∧ f.av = e.av ∧ ∀ p, p ∈ f.ps ↔ p ∈ e.ps
theorem Alter.symm {l m : List Ent} (h : Alter l m) : Alter m l :=
  ⟨h.len.symm, h.names.symm, fun f hf => let ⟨e, he, h1, h2, h3⟩ := h.back f hf; ⟨e, he, h1.symm, h2.symm, fun p => (h3 p).symm⟩, fun e he => let ⟨f, hf, h1, h2, h3⟩ := h.there e he; ⟨f, hf, h1.symm, h2.symm, fun p => (h3 p).symm⟩⟩
theorem Alter.good {l m : List Ent} (h : Alter l m) (hl : Good l) : Good m := by
  refine ⟨by rw [h.len]; exact hl.len, h.names.nodup_iff.2 hl.names, fun f hf => ?_, fun hr => hl.round (Rounded.congr (fun f hf => ?_) hr)⟩
  · obtain ⟨e, he, h1, h2, h3⟩ := h.back f hf
    obtain ⟨k1, k2, k3⟩ := hl.ones e he
    exact ⟨by rw [h2]; exact k1, by rw [h2]; exact k2, fun p hp => h.names.mem_iff.2 (k3 p ((h3 p).1 hp))⟩
  · obtain ⟨e, he, h1, _, h3⟩ := h.back f hf
    exact ⟨e, he, h1.symm, fun p hp => (h3 p).1 hp⟩
theorem sortU_names_mem {l : List Uid} {p : Uid} : p ∈ sortU ordU l ↔ p ∈ l := sortU_mem (P := fun _ => True) (fun _ _ _ _ h => ordU_eq h) (fun _ _ => trivial) p
theorem sortU_names {a b : List Uid} (h : ∀ p, p ∈ a ↔ p ∈ b) : sortU ordU a = sortU ordU b :=
  strict_unique GoodAt.ordU (sortU_strict GoodAt.ordU a) (sortU_strict GoodAt.ordU b) fun p => by rw [sortU_names_mem, sortU_names_mem, h]
theorem putE_uids (l : List Ent) : (l.map putE).map Ent.uid = l.map Ent.uid := by
  rw [List.map_map]; rfl
theorem byUid_eq {l : List Ent} (hn : (l.map Ent.uid).Nodup) {x y : Ent} (hx : x ∈ l) (hy : y ∈ l) (h : cmpE x y = 0) : x = y := by
  have he := ordU_eq h
  obtain ⟨i, hi⟩ := List.mem_iff_getElem?.1 hx
  obtain ⟨j, hj⟩ := List.mem_iff_getElem?.1 hy
  have h1 := idx_of_get hn (i := i) (u := x.uid) (by simp [hi])
  have h2 := idx_of_get hn (i := j) (u := x.uid) (by simp [hj, he])
  rw [h1] at h2
  obtain rfl := Option.some.inj h2
  rw [hi] at hj
  exact Option.some.inj hj
theorem sortE_mem {l : List Ent} (hn : (l.map Ent.uid).Nodup) (x : Ent) : x ∈ sortU cmpE l ↔ x ∈ l := sortU_mem (P := fun x => x ∈ l) (fun _ _ hx hy h => byUid_eq hn hx hy h) (fun _ h => h) x
theorem Alter.same {l m : List Ent} (h : Alter l m) (hl : Good l) : (canonE m).1 = (canonE l).1 := by
  have hm := h.good hl
  rw [canonE_of hl, canonE_of hm]
  have n1 : ((l.map putE).map Ent.uid).Nodup := by rw [putE_uids]; exact hl.names
  have n2 : ((m.map putE).map Ent.uid).Nodup := by rw [putE_uids]; exact hm.names
  refine strict_unique GoodAt.cmpE (sortU_strict GoodAt.cmpE _) (sortU_strict GoodAt.cmpE _) fun x => ?_
  rw [sortE_mem n1, sortE_mem n2, List.mem_map, List.mem_map]
  have key : ∀ {e f : Ent}, f.uid = e.uid → f.av = e.av → (∀ p, p ∈ f.ps ↔ p ∈ e.ps) → putE f = putE e := fun {e f} h1 h2 h3 => by
    unfold putE
    rw [h1, h2, sortU_names h3]
  constructor
  · rintro ⟨f, hf, rfl⟩
    obtain ⟨e, he, h1, h2, h3⟩ := h.back f hf
    exact ⟨e, he, (key h1 h2 h3).symm⟩
  · rintro ⟨e, he, rfl⟩
    obtain ⟨f, hf, h1, h2, h3⟩ := h.there e he
    exact ⟨f, hf, key h1 h2 h3⟩
/-! ### told again -/
end Go.Proofs.YtebfoimbdljbmaaDoor

/-
  What layer 5's awake comes to: true. The conditions: none.
-/
namespace Go.Proofs.YtebfoimbdljbmaaDoor
open Go.RowKit

theorem flat_block {α : Type} {R : Rep α} {S : Nat → Prop} {w : World} {l : List α} {xs : List Value} {b : Nat} {T : TypeId} {fz : Nat × Nat} (h : w.heap[b]? = some (.cells xs.toArray T fz)) (hf : R.Flat S w l xs) (hb : S b) (hl : l.length ≤ LIM) {n cap : Nat} (hn : n = l.length) (hc : l.length ≤ cap) (hcm : cap ≤ maxLen) :
    R.RowsAt S w l (.slice (some ⟨b, 0, none⟩) n cap) := by
  subst hn
  exact ⟨_, cap, rfl, ⟨hl, hc, hcm⟩, fun _ => ⟨b, 0, rfl, hb, hf.row fun j v hj => by rw [cell_of_row _ _ _ _ _ _ h]; simpa using hj⟩⟩

def recC : List Value := [.int .i64 6, .bool false, .int .i64 0, .string ByteArray.empty, .string ByteArray.empty, .string ByteArray.empty, .slice none 0 0, .slice none 0 0]
/-! ### single operations -/
/-! ### how far the last statement is -/
def entZ (s : Nat) : Value := .agg #[.string tU, .string tA, .slice (some ⟨s, 0, none⟩) 1 1, .int .i64 0, .bool false, .int .i64 0, .string ByteArray.empty, .string ByteArray.empty, .string ByteArray.empty, .slice none 0 0, .slice none 0 0]
def vals5 (s : Nat) : List Value := [.int .i64 (-1), .bool true, .bool true, .bool true, .slice (some ⟨s, 0, none⟩) 1 1, entZ s, .slice (some ⟨s + 1, 0, none⟩) 1 1, .bool true, .bool true]
def obj1 : Obj := .cells #[.string tU, .string tA] 24
def obj2 (s : Nat) : Obj := .cells #[.string tU, .string tA, .slice (some ⟨s, 0, none⟩) 1 1, .int .i64 0, .bool false, .int .i64 0, .string ByteArray.empty, .string ByteArray.empty, .string ByteArray.empty, .slice none 0 0, .slice none 0 0] 115
structure Stage5 (w9 : World) (vs : List Value) (W : World) : Prop where
  ex : ∃ W1, Ext w9 W1 ∧ vs = (vals5 W1.heap.size).take vs.length ∧ (vs.length ≤ 4 → W = W1) ∧ (vs.length = 5 ∨ vs.length = 6 → W = W1.alloc obj1) ∧ (vs.length = 7 → W = (W1.alloc obj1).alloc (obj2 W1.heap.size)) ∧ (8 ≤ vs.length → Ext w9 W)
section
variable {w9 : World} {vs : List Value} {W : World}
theorem Stage5.ext (h : Stage5 w9 vs W) : Ext w9 W := by
  obtain ⟨W1, h1, _, h3, h4, h5, h6⟩ := h.ex
  rcases (by omega : vs.length ≤ 4 ∨ (vs.length = 5 ∨ vs.length = 6) ∨ vs.length = 7 ∨ 8 ≤ vs.length) with h | h | h | h
  · rw [h3 h]; exact h1
  · rw [h4 h]; exact h1.alloc _
  · rw [h5 h]; exact (h1.alloc _).alloc _
  · exact h6 h
theorem Stage5.at (h : Stage5 w9 vs W) {k : Nat} {v : Value} (hk : k < vs.length) (hv : ∀ s, (vals5 s)[k]? = some v) : vs.getD k undef = v := by
  obtain ⟨W1, _, h2, _⟩ := h.ex
  have h3 : vs[k]? = some v := by
    conv => lhs; rw [h2]
    rw [List.getElem?_take, if_pos hk]; exact hv _
  rw [List.getD_eq_getElem?_getD, h3]; rfl
theorem Stage5.first (hl : vs.length = 0) {w' : World} (h' : Ext w9 w') : Stage5 w9 (vs ++ [.int .i64 (-1)]) w' := by
  have : vs = [] := List.eq_nil_of_length_eq_zero hl
  subst this
  exact ⟨w', h', rfl, fun _ => rfl, fun h => by simp at h, fun h => by simp at h, fun h => by simp at h⟩
end

end Go.Proofs.YtebfoimbdljbmaaDoor
