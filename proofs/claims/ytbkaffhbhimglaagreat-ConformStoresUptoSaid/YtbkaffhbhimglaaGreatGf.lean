/-
  What the program's canon and Canon, and the reference's Canon, come to: the same plain function. The conditions: none beyond each contract's own.
-/
import Derived.Test.YtbkaffhbhimglaaGreatGc
import Derived.Test.YtbkaffhbhimglaaGreatGe
import Derived.Test.YtbkaffhbhimglaaGreatCanRQ
import Derived.Test.YtbkaffhbhimglaaGreatCanR6Q
import Derived.Test.YtbkaffhbhimglaaGreatGd
import Derived.Test.YtbkaffhbhimglaaGreatSortPEQ
import Derived.Test.YtbkaffhbhimglaaGreatGb
namespace Go.Proofs.YtbkaffhbhimglaaGreat
open Go.RowKit
open Lib renaming hid → q_
set_option maxRecDepth 100000
set_option maxHeartbeats 1600000
theorem Val.plain_at (S : Nat → Prop) (w : World) (k : Int) (bo : Bool) (n : Int) (t ut ui : ByteArray) (hk : I64 k) (hn : I64 n) (h1 : t.size ≤ maxLen) (h2 : ut.size ≤ maxLen) (h3 : ui.size ≤ maxLen) :
  Val.At S w (.mk k bo n t ut ui [] []) [.int .i64 k, .bool bo, .int .i64 n, .string t, .string ut, .string ui, .slice none 0 0, .slice none 0 0] := by
 unfold Val.At
 exact ⟨none, 0, _, rfl, ⟨hk, hn, h1, h2, h3⟩, ⟨by simp [LIM], by simp, by simp⟩, by simp, none, 0, rfl, by simp [LIM], by simp, by simp, by simp, by simp⟩
theorem Val.set_at {S : Nat → Prop} {w : World} {l : List Val} {v : Value} (h : ValsAt S w l v) : Val.At S w (.mk 5 false 0 empty empty empty l []) [.int .i64 5, .bool false, .int .i64 0, .string ByteArray.empty, .string ByteArray.empty, .string ByteArray.empty, v, .slice none 0 0] := by
 obtain ⟨A, cap, rfl, h3, h4⟩ := h
 have h0 : empty.size ≤ maxLen := by rw [zab]; decide
 unfold Val.At
 exact ⟨A, cap, _, rfl, ⟨⟨by omega, by omega⟩, ⟨by omega, by omega⟩, h0, h0, h0⟩, h3, h4, none, 0, rfl, by simp [LIM], by simp, by simp, by simp, by simp⟩
theorem zbn : ByteArray.empty.size ≤ maxLen := by rw [zab]; decide
theorem canP_plain (k : Int) (bo : Bool) (i : Int) (t ut ui : ByteArray) (A A2 : Option Addr) (l c l2 c2 : Nat) (items : List Val) (names : List ByteArray) (w : World) (h5 : k ≠ 5) (h6 : k ≠ 6) (hi : I64 i) (ht : t.size ≤ maxLen) (hut : ut.size ≤ maxLen) (hui : ui.size ≤ maxLen) :
  Calls Tryz.prog 74 #[.agg #[.int .i64 k, .bool bo, .int .i64 i, .string t, .string ut, .string ui, .slice A l c, .slice A2 l2 c2]] w
   (zcs (Val.mk k bo i t ut ui items names).can.1 (Val.mk k bo i t ut ui items names).can.2 w) := by
 have hz : I64 0 := by constructor <;> omega
 have hx : Ext w ((w.alloc (.cells #[.int .i64 k, .bool bo, .int .i64 i, .string t, .string ut, .string ui, .slice A l c, .slice A2 l2 c2] 46))) := (Ext.refl w).alloc _
 have HX := q_ hx
 have HI := q_ hi
 have HZ := q_ hz
 have HT := q_ ht
 have HUt := q_ hut
 have HUi := q_ hui
 have hd : (Val.mk k bo i t ut ui items names).can = if k = 1 then (.mk 1 bo 0 empty empty empty [] [], 0) else if k = 2 then (.mk 2 false i empty empty empty [] [], 0) else if k = 3 then (.mk 3 false 0 t empty empty [] [], 0) else if k = 4 then (.mk 4 false 0 empty ut ui [] [], 0) else (.zero, 1) := by
  simp [Val.can, h5, h6]
 have HD := q_ hd
 generalize (Val.mk k bo i t ut ui items names).can = res at *
 clear hx hi ht hut hui hd hz
 by_cases h1 : k = 1
 ·have HR : Hid (res = (.mk 1 bo 0 empty empty empty [] [], 0)) := q_ (by rw [HD.out, if_pos h1])
  subst h1
  clear h5 h6
  go_enter Tryz.func74, Tryz.ntmps74
  go_wp2
  rw [HR.out]
  exact bodyPost_ret (v := .tuple #[.agg #[.int .i64 1, .bool bo, .int .i64 0, .string ByteArray.empty, .string ByteArray.empty, .string ByteArray.empty, .slice none 0 0, .slice none 0 0], .int .i64 0]) (zaj (cs := [.int .i64 1, .bool bo, .int .i64 0, .string ByteArray.empty, .string ByteArray.empty, .string ByteArray.empty, .slice none 0 0, .slice none 0 0]) Tryz.results74 rfl zai zaf rfl (zap _ _ (by simp))) rfl ⟨_, rfl, Val.plain_at _ _ _ _ _ _ _ _ (by constructor <;> omega) HZ.out zbn zbn zbn, HX.out.alloc _⟩
 by_cases h2 : k = 2
 ·have HR : Hid (res = (.mk 2 false i empty empty empty [] [], 0)) := q_ (by rw [HD.out, if_neg h1, if_pos h2])
  subst h2
  clear h5 h6 h1
  go_enter Tryz.func74, Tryz.ntmps74
  go_wp2
  rw [HR.out]
  exact bodyPost_ret (v := .tuple #[.agg #[.int .i64 2, .bool false, .int .i64 i, .string ByteArray.empty, .string ByteArray.empty, .string ByteArray.empty, .slice none 0 0, .slice none 0 0], .int .i64 0]) (zaj (cs := [.int .i64 2, .bool false, .int .i64 i, .string ByteArray.empty, .string ByteArray.empty, .string ByteArray.empty, .slice none 0 0, .slice none 0 0]) Tryz.results74 rfl zai zaf rfl (zap _ _ (by simp))) rfl ⟨_, rfl, Val.plain_at _ _ _ _ _ _ _ _ (by constructor <;> omega) HI.out zbn zbn zbn, HX.out.alloc _⟩
 by_cases h3 : k = 3
 ·have HR : Hid (res = (.mk 3 false 0 t empty empty [] [], 0)) := q_ (by rw [HD.out, if_neg h1, if_neg h2, if_pos h3])
  subst h3
  clear h5 h6 h1 h2
  go_enter Tryz.func74, Tryz.ntmps74
  go_wp2
  rw [HR.out]
  exact bodyPost_ret (v := .tuple #[.agg #[.int .i64 3, .bool false, .int .i64 0, .string t, .string ByteArray.empty, .string ByteArray.empty, .slice none 0 0, .slice none 0 0], .int .i64 0]) (zaj (cs := [.int .i64 3, .bool false, .int .i64 0, .string t, .string ByteArray.empty, .string ByteArray.empty, .slice none 0 0, .slice none 0 0]) Tryz.results74 rfl zai zaf rfl (zap _ _ (by simp))) rfl ⟨_, rfl, Val.plain_at _ _ _ _ _ _ _ _ (by constructor <;> omega) HZ.out HT.out zbn zbn, HX.out.alloc _⟩
 by_cases h4 : k = 4
 ·have HR : Hid (res = (.mk 4 false 0 empty ut ui [] [], 0)) := q_ (by rw [HD.out, if_neg h1, if_neg h2, if_neg h3, if_pos h4])
  subst h4
  clear h5 h6 h1 h2 h3
  go_enter Tryz.func74, Tryz.ntmps74
  go_wp2
  rw [HR.out]
  exact bodyPost_ret (v := .tuple #[.agg #[.int .i64 4, .bool false, .int .i64 0, .string ByteArray.empty, .string ut, .string ui, .slice none 0 0, .slice none 0 0], .int .i64 0]) (zaj (cs := [.int .i64 4, .bool false, .int .i64 0, .string ByteArray.empty, .string ut, .string ui, .slice none 0 0, .slice none 0 0]) Tryz.results74 rfl zai zaf rfl (zap _ _ (by simp))) rfl ⟨_, rfl, Val.plain_at _ _ _ _ _ _ _ _ (by constructor <;> omega) HZ.out zbn HUt.out HUi.out, HX.out.alloc _⟩
 have HR : Hid (res = (.zero, 1)) := q_ (by rw [HD.out, if_neg h1, if_neg h2, if_neg h3, if_neg h4])
 have e1 : (k == 1) = false := by simpa using h1
 have e2 : (k == 2) = false := by simpa using h2
 have e3 : (k == 3) = false := by simpa using h3
 have e4 : (k == 4) = false := by simpa using h4
 have e5 : (k == 5) = false := by simpa using h5
 have e6 : (k == 6) = false := by simpa using h6
 clear h1 h2 h3 h4 h5 h6
 go_enter Tryz.func74, Tryz.ntmps74
 go_wp2
 rw [HR.out]
 exact bodyPost_ret (v := .tuple #[.agg zeroCells.toArray, .int .i64 1]) (zaj Tryz.results74 rfl zai zaf rfl (zap _ _ (by simp))) rfl ⟨zeroCells, rfl, Val.zero_at _ _, HX.out.alloc _⟩
theorem ext_of_below {base : Nat} {w a b : World} (h : Ext w a) (hb : w.heap.size ≤ base) (k : Below base a b) (hd : a.drawn ≤ b.drawn) : Ext w b := ⟨h.toBelow.trans (Below.mono k hb), Nat.le_trans h.drawn hd⟩
theorem itemsOf_bad {l : List Val} (h : (Val.itemsOf l).2 ≠ 0) : ((Val.cans l).2 ≠ 0 ∧ (Val.itemsOf l).2 = (Val.cans l).2) ∨ ((Val.cans l).2 = 0 ∧ 4096 < l.length ∧ (Val.itemsOf l).2 = 12) := by
 unfold Val.itemsOf at h ⊢
 by_cases h1 : (Val.cans l).2 ≠ 0
 ·rw [if_pos h1]; exact .inl ⟨h1, rfl⟩
 ·rw [if_neg h1] at h ⊢
  by_cases h2 : 4096 < l.length
  ·rw [if_pos h2]; exact .inr ⟨by simpa using h1, h2, rfl⟩
  ·rw [if_neg h2] at h; exact absurd rfl h
theorem itemsOf_good {l : List Val} (h : (Val.itemsOf l).2 = 0) : (Val.cans l).2 = 0 ∧ ¬ 4096 < l.length ∧ (Val.itemsOf l).1 = (Val.cans l).1 := by
 unfold Val.itemsOf at h ⊢
 by_cases h1 : (Val.cans l).2 ≠ 0
 ·rw [if_pos h1] at h; exact absurd h h1
 ·rw [if_neg h1] at h ⊢
  by_cases h2 : 4096 < l.length
  ·rw [if_pos h2] at h; cases h
  ·rw [if_neg h2]; exact ⟨by simpa using h1, h2, rfl⟩
theorem canP5_ok (bo : Bool) (i : Int) (t ut ui : ByteArray) (items : List Val) (names : List ByteArray) (S : Nat → Prop) (w : World) (A A2 : Option Addr) (cap cap2 : Nat)
  (hS : ∀ b, S b → b < w.heap.size) (ha : Val.At S w (.mk 5 bo i t ut ui items names) [.int .i64 5, .bool bo, .int .i64 i, .string t, .string ut, .string ui, .slice A items.length cap, .slice A2 names.length cap2])
  (hc : ∀ x ∈ items, ∀ (w1 : World) (cx : List Value), (∀ b, S b → b < w1.heap.size) → Val.At S w1 x cx → Calls Tryz.prog 74 #[.agg cx.toArray] w1 (zcs x.can.1 x.can.2 w1)) :
  Calls Tryz.prog 74 #[.agg #[.int .i64 5, .bool bo, .int .i64 i, .string t, .string ut, .string ui, .slice A items.length cap, .slice A2 names.length cap2]] w
   (zcs (Val.mk 5 bo i t ut ui items names).can.1 (Val.mk 5 bo i t ut ui items names).can.2 w) := by
 have hva := ha.vals
 have HS := q_ hS
 have HC := q_ hc
 have HV := q_ hva
 have HD := q_ (Val.can5 bo i t ut ui items names)
 generalize (Val.mk 5 bo i t ut ui items names).can = res at *
 clear hS hc hva ha
 go_enter Tryz.func74, Tryz.ntmps74
 go_wp2_with fail
 generalize hW0 : (w.alloc (.cells #[.int .i64 5, .bool bo, .int .i64 i, .string t, .string ut, .string ui, .slice A items.length cap, .slice A2 names.length cap2] 46)).alloc (.cells #[.int .i64 0, .bool false, .int .i64 0, .string ⟨#[]⟩, .string ⟨#[]⟩, .string ⟨#[]⟩, .slice none 0 0, .slice none 0 0] 46) = W0
 have HW : Hid (Ext w W0) := q_ (by rw [← hW0]; exact ((Ext.refl w).alloc _).alloc _)
 have HB1 : Hid (W0.heap[w.heap.size + 1]? = some (.cells zeroCells.toArray 46 (0, 0))) := q_ (by rw [← hW0]; exact zay (by simp) _)
 have HS0 : Hid (W0.heap.size = w.heap.size + 2) := q_ (by rw [← hW0]; simp)
 have HSW : Hid (∀ b, S b → b < W0.heap.size) := q_ fun b hb => Nat.lt_of_lt_of_le (HS.out b hb) HW.out.size
 clear hW0
 refine (items_ok S items _ W0 HSW.out (HV.out.alike (Alike.of_ext HW.out HS.out)) HC.out).mono ?_
 rintro e w1 ⟨v1, rfl, ⟨xs, hown, hflat⟩, hx1⟩
 obtain ⟨A1, cap1, rfl⟩ := zax hown
 have HX1 := q_ hx1
 have Ho := q_ hown
 have Hf := q_ hflat
 have hcell := (hx1.block _ (zad HB1.out)).trans HB1.out
 have HB1' := q_ hcell
 clear hx1 hown hflat hcell
 by_cases he : (Val.itemsOf items).2 = 0
 ·have e0 : ((Val.itemsOf items).2 != 0) = false := by simpa using he
  obtain ⟨hc0, hl0, hit⟩ := itemsOf_good he
  have hlen := Val.cans_length hc0
  have hr : res = (.mk 5 false 0 empty empty empty (sortU Val.ord (Val.cans items).1) [], 0) := by rw [HD.out]; simp [hc0, hl0]
  have HR := q_ hr
  have hIs : ∀ x ∈ (Val.itemsOf items).1, x.Is := fun x hx => by
   rw [hit] at hx
   obtain ⟨y, hy, e⟩ := Val.cans_mem hc0 x hx
   have := Val.can_is (v := y) (by rw [e])
   rwa [e] at this
  have HIs := q_ hIs
  have hll : (Val.itemsOf items).1.length ≤ 4096 := by rw [hit, hlen]; omega
  have Hll := q_ hll
  have Hit := q_ hit
  clear hc0 hl0 hit hlen hr he hIs hll
  generalize (Val.itemsOf items).1 = l1 at *
  generalize (Val.itemsOf items).2 = er at *
  go_wp2_with fail
  refine (sortV_ok W0.heap.size w1 _ l1 xs Ho.out Hf.out (by have := Hll.out; rw [zak]; omega)).mono ?_
  rintro e w2 ⟨rfl, l2, xs2, hperm, hpw, hown2, hflat2, hbel, hdr⟩
  have Hp := q_ hperm
  have Hpw := q_ hpw
  have hl2 := hperm.length_eq
  rw [hl2] at hown2
  have Ho2 := q_ hown2
  have Hf2 := q_ hflat2
  have HX2 : Hid (Ext W0 w2) := q_ (ext_of_below HX1.out (Nat.le_refl _) hbel hdr)
  have Hl2 := q_ hl2
  clear hperm hpw hown2 hflat2 hbel hdr hl2
  go_wp2_with fail
  refine (compactV_ok W0.heap.size w2 _ l2 xs2 (by rw [Hl2.out]; exact Ho2.out) Hf2.out (by rw [Hl2.out]; have := Hll.out; rw [zak]; omega)).mono ?_
  rintro e w3 ⟨v3, rfl, xs3, hown3, hflat3, hbel, hdr⟩
  have hx3 : Ext W0 w3 := ext_of_below HX2.out (Nat.le_refl _) hbel hdr
  have hde : zbo Val.ord l2 = sortU Val.ord l1 := dedup_sorted Val.goodAt (P := Val.Is) (fun x y hx hy h0 => Val.eq_ord hx hy h0) HIs.out Hp.out Hpw.out
  rw [hde] at hown3 hflat3
  obtain ⟨A3, cap3, rfl⟩ := zax hown3
  have hv3 := own_vals (S' := Fresh W0.heap.size w3) hown3 hflat3 (by have := sortV_len l1; have := Hll.out; rw [zak]; omega) (fun b hb => ⟨hb.1, hb.2.1⟩) (fun b hb => hown3.lt b hb)
  have HV3 := q_ hv3
  have HX3 := q_ hx3
  have hcell := (hx3.block _ (zad HB1.out)).trans HB1.out
  have HCl := q_ hcell
  clear hown3 hflat3 hbel hdr hx3 hde hv3 hcell
  go_wp2_with (refine zah rfl 46 _ _ rfl (w.heap.size + 1) 0 rfl [.int .i64 5, .bool false, .int .i64 0, .string ByteArray.empty, .string ByteArray.empty, .string ByteArray.empty, .slice A3 (sortU Val.ord l1).length cap3, .slice none 0 0] rfl zaf rfl 46 zeroCells.toArray HCl.out (by simp [zeroCells]) (by intro u hu; simp at hu; rcases hu with rfl | rfl | rfl | rfl | rfl | rfl <;> rfl) ?_)
  rw [HR.out, ← Hit.out]
  refine bodyPost_ret (v := .tuple #[.agg #[.int .i64 5, .bool false, .int .i64 0, .string ByteArray.empty, .string ByteArray.empty, .string ByteArray.empty, .slice A3 (sortU Val.ord l1).length cap3, .slice none 0 0], .int .i64 0]) (zaj Tryz.results74 rfl zai zaf rfl (zao HCl.out (by simp [zeroCells]))) rfl ⟨[.int .i64 5, .bool false, .int .i64 0, .string ByteArray.empty, .string ByteArray.empty, .string ByteArray.empty, .slice A3 (sortU Val.ord l1).length cap3, .slice none 0 0], rfl, ?_, (HW.out.trans HX3.out).setRow (by omega) _⟩
  refine ((Val.set_at HV3.out).alike (w' := w3.setRow (w.heap.size + 1) _) (fun b hb => (GrownBy.setRow w3 (w.heap.size + 1) _).block b hb.2 (fun e => by injection e with e; have := hb.1; have := HS0.out; omega))).mono fun b hb => ⟨by have := hb.1; have := HS0.out; omega, by simpa [World.setRow] using hb.2⟩
 ·have e0 : ((Val.itemsOf items).2 != 0) = true := by simpa using he
  have hr : res = (.zero, (Val.itemsOf items).2) := by
   rw [HD.out]
   rcases itemsOf_bad he with ⟨h1, h2⟩ | ⟨h1, h2, h3⟩
   ·rw [if_pos h1, h2]
   ·rw [if_neg (by simp [h1]), if_pos h2, h3]
  have HR := q_ hr
  clear hr he
  generalize (Val.itemsOf items).1 = l1 at *
  generalize (Val.itemsOf items).2 = er at *
  go_wp2_with (refine zah rfl 46 _ _ rfl (w.heap.size + 1) 0 rfl zeroCells rfl zaf rfl 46 zeroCells.toArray HB1'.out (by simp [zeroCells]) zco ?_)
  rw [HR.out]
  exact bodyPost_ret (v := .tuple #[.agg zeroCells.toArray, .int .i64 er]) (zaj Tryz.results74 rfl zai zaf rfl (zao HB1'.out (by simp [zeroCells]))) rfl ⟨zeroCells, rfl, Val.zero_at _ _, (HW.out.trans HX1.out).setRow (by omega) _⟩
theorem canP6_ok (bo : Bool) (i : Int) (t ut ui : ByteArray) (items : List Val) (names : List ByteArray) (S : Nat → Prop) (w : World) (A A2 : Option Addr) (cap cap2 : Nat)
  (hS : ∀ b, S b → b < w.heap.size) (ha : Val.At S w (.mk 6 bo i t ut ui items names) [.int .i64 6, .bool bo, .int .i64 i, .string t, .string ut, .string ui, .slice A items.length cap, .slice A2 names.length cap2])
  (hc : ∀ x ∈ items, ∀ (w1 : World) (cx : List Value), (∀ b, S b → b < w1.heap.size) → Val.At S w1 x cx → Calls Tryz.prog 74 #[.agg cx.toArray] w1 (zcs x.can.1 x.can.2 w1)) :
  Calls Tryz.prog 74 #[.agg #[.int .i64 6, .bool bo, .int .i64 i, .string t, .string ut, .string ui, .slice A items.length cap, .slice A2 names.length cap2]] w
   (zcs (Val.mk 6 bo i t ut ui items names).can.1 (Val.mk 6 bo i t ut ui items names).can.2 w) := by
 have hva := ha.vals
 have hsa := ha.strs
 have HS := q_ hS
 have HC := q_ hc
 have HV := q_ hva
 have HN := q_ hsa
 have HD := q_ (Val.can6 bo i t ut ui items names)
 have hl1 : items.length ≤ 1073741824 := by obtain ⟨_, _, _, ⟨h, _⟩, _⟩ := hva; rwa [zak] at h
 have hl2 : names.length ≤ 1073741824 := by obtain ⟨_, _, _, h, _⟩ := hsa; rwa [zak] at h
 generalize (Val.mk 6 bo i t ut ui items names).can = res at *
 clear hS hc hva ha hsa
 by_cases hnl : names.length = items.length
 ·have t0 : ((names.length : Int) != items.length) = false := by simp; omega
  have HNL := q_ hnl
  clear hnl
  go_enter Tryz.func74, Tryz.ntmps74
  go_wp2_with fail
  clear t0
  generalize hW0 : (w.alloc (.cells #[.int .i64 6, .bool bo, .int .i64 i, .string t, .string ut, .string ui, .slice A items.length cap, .slice A2 names.length cap2] 46)).alloc (.cells #[.int .i64 0, .bool false, .int .i64 0, .string ⟨#[]⟩, .string ⟨#[]⟩, .string ⟨#[]⟩, .slice none 0 0, .slice none 0 0] 46) = W0
  have HW : Hid (Ext w W0) := q_ (by rw [← hW0]; exact ((Ext.refl w).alloc _).alloc _)
  have HB0 : Hid (W0.heap[w.heap.size]? = some (.cells #[.int .i64 6, .bool bo, .int .i64 i, .string t, .string ut, .string ui, .slice A items.length cap, .slice A2 names.length cap2] 46 (0, 0))) := q_ (by rw [← hW0, Below.heap_alloc _ _ _ (by simp)]; exact zay rfl _)
  have HB1 : Hid (W0.heap[w.heap.size + 1]? = some (.cells zeroCells.toArray 46 (0, 0))) := q_ (by rw [← hW0]; exact zay (by simp) _)
  have HS0 : Hid (W0.heap.size = w.heap.size + 2) := q_ (by rw [← hW0]; simp)
  have HSW : Hid (∀ b, S b → b < W0.heap.size) := q_ fun b hb => Nat.lt_of_lt_of_le (HS.out b hb) HW.out.size
  clear hW0
  refine (items_ok S items _ W0 HSW.out (HV.out.alike (Alike.of_ext HW.out HS.out)) HC.out).mono ?_
  rintro e w1 ⟨v1, rfl, ⟨xs, hown, hflat⟩, hx1⟩
  obtain ⟨A1, cap1, rfl⟩ := zax hown
  have HX1 := q_ hx1
  have Ho := q_ hown
  have Hf := q_ hflat
  have hcell := (hx1.block _ (zad HB1.out)).trans HB1.out
  have HB1' := q_ hcell
  have c7 : w1.cell? ⟨w.heap.size, 7, none⟩ = some (.slice A2 names.length cap2) := by rw [cell_of_row _ _ _ _ _ _ ((hx1.block _ (zad HB0.out)).trans HB0.out)]; rfl
  clear hx1 hown hflat hcell
  by_cases he : (Val.itemsOf items).2 = 0
  ·have e0 : ((Val.itemsOf items).2 != 0) = false := by simpa using he
   obtain ⟨hc0, hl0, hit⟩ := itemsOf_good he
   have hlen := Val.cans_length hc0
   have hr : res = zbe names (Val.itemsOf items).1 := by rw [HD.out, hit]; simp [hc0, hl0, HNL.out]
   have hll : (Val.itemsOf items).1.length = items.length := by rw [hit, hlen]
   have Hll := q_ hll
   have HR := q_ hr
   have Hl0 := q_ hl0
   clear hc0 hl0 hit hlen hr he hll
   generalize (Val.itemsOf items).1 = l1 at *
   generalize (Val.itemsOf items).2 = er at *
   have hv1 := own_vals (S' := Fresh W0.heap.size w1) Ho.out Hf.out (by have := Hll.out; have := Hl0.out; rw [zak]; omega) (fun b hb => ⟨hb.1, hb.2.1⟩) (fun b hb => Ho.out.lt b hb)
   have HV1 := q_ hv1
   clear hv1
   go_wp2_with fail
   refine (record_ok (Fresh W0.heap.size w1) S names _ l1 _ w1 (fun b hb => hb.2) (fun b hb => Nat.lt_of_lt_of_le (HSW.out b hb) HX1.out.size) (HN.out.alike (Alike.of_ext (HW.out.trans HX1.out) HS.out)) HV1.out (by rw [Hll.out, HNL.out]) (by have := Hll.out; have := Hl0.out; omega)).mono ?_
   rintro e w3 ⟨cs, rfl, hat, hx3⟩
   obtain ⟨k1, b1, n1, t1, ut1, ui1, A3, l3, c3, A4, l4, c4, rfl⟩ := hat.shape
   have HA := q_ hat
   have HX3 := q_ hx3
   have hcell := (hx3.block _ (zad HB1'.out)).trans HB1'.out
   have HCl := q_ hcell
   have hone := hat.one
   have HOne := q_ hone
   clear hat hx3 hcell hone c7
   generalize hrr : zbe names l1 = rr at *
   have HRR := q_ hrr
   clear hrr
   go_wp2_with (refine zah rfl 46 _ _ rfl (w.heap.size + 1) 0 rfl [.int .i64 k1, .bool b1, .int .i64 n1, .string t1, .string ut1, .string ui1, .slice A3 l3 c3, .slice A4 l4 c4] rfl zaf rfl 46 zeroCells.toArray HCl.out (by simp [zeroCells]) HOne.out ?_)
   rw [HR.out]
   refine bodyPost_ret (v := .tuple #[.agg #[.int .i64 k1, .bool b1, .int .i64 n1, .string t1, .string ut1, .string ui1, .slice A3 l3 c3, .slice A4 l4 c4], .int .i64 rr.2]) (zaj Tryz.results74 rfl zai zaf rfl (zao HCl.out (by simp [zeroCells]))) rfl ⟨[.int .i64 k1, .bool b1, .int .i64 n1, .string t1, .string ut1, .string ui1, .slice A3 l3 c3, .slice A4 l4 c4], rfl, ?_, ((HW.out.trans HX1.out).trans HX3.out).setRow (by omega) _⟩
   have hlow : ∀ b, Fresh W0.heap.size w1 b ∨ Fresh w1.heap.size w3 b → w.heap.size + 2 ≤ b ∧ b < w3.heap.size := fun b hb => by
    have h1 := HS0.out
    have h2 := HX1.out.size
    have h3 := HX3.out.size
    rcases hb with hb | hb
    ·exact ⟨by have := hb.1; omega, by have := hb.2; omega⟩
    ·exact ⟨by have := hb.1; omega, hb.2⟩
   refine (HA.out.alike (w' := w3.setRow (w.heap.size + 1) _) (fun b hb => (GrownBy.setRow w3 (w.heap.size + 1) _).block b (hlow b hb).2 (fun e => by injection e with e; have := (hlow b hb).1; omega))).mono fun b hb => ⟨by have := (hlow b hb).1; omega, by simpa [World.setRow] using (hlow b hb).2⟩
  ·have e0 : ((Val.itemsOf items).2 != 0) = true := by simpa using he
   have hr : res = (.zero, (Val.itemsOf items).2) := by
    rw [HD.out, if_neg (by simp [HNL.out])]
    rcases itemsOf_bad he with ⟨h1, h2⟩ | ⟨h1, h2, h3⟩
    ·rw [if_pos h1, h2]
    ·rw [if_neg (by simp [h1]), if_pos h2, h3]
   have HR := q_ hr
   clear hr he c7
   generalize (Val.itemsOf items).1 = l1 at *
   generalize (Val.itemsOf items).2 = er at *
   go_wp2_with (refine zah rfl 46 _ _ rfl (w.heap.size + 1) 0 rfl zeroCells rfl zaf rfl 46 zeroCells.toArray HB1'.out (by simp [zeroCells]) zco ?_)
   rw [HR.out]
   exact bodyPost_ret (v := .tuple #[.agg zeroCells.toArray, .int .i64 er]) (zaj Tryz.results74 rfl zai zaf rfl (zao HB1'.out (by simp [zeroCells]))) rfl ⟨zeroCells, rfl, Val.zero_at _ _, (HW.out.trans HX1.out).setRow (by omega) _⟩
 ·have t0 : ((names.length : Int) != items.length) = true := by simp; omega
  have hr : res = (.zero, 1) := by rw [HD.out, if_pos hnl]
  have HR := q_ hr
  clear hnl hr
  go_enter Tryz.func74, Tryz.ntmps74
  go_wp2_with fail
  rw [HR.out]
  exact bodyPost_ret (v := .tuple #[.agg zeroCells.toArray, .int .i64 1]) (zaj Tryz.results74 rfl zai zaf rfl (zap _ _ (by simp))) rfl ⟨zeroCells, rfl, Val.zero_at _ _, ((Ext.refl w).alloc _).alloc _⟩
theorem canP_ok (n : Nat) : ∀ (v : Val) (S : Nat → Prop) (w : World) (cs : List Value), SizeOf.sizeOf v ≤ n → (∀ b, S b → b < w.heap.size) → Val.At S w v cs →
  Calls Tryz.prog 74 #[.agg cs.toArray] w (zcs v.can.1 v.can.2 w) := by
 induction n with
 | zero => intro v; cases v; simp
 | succ n ih =>
  intro v S w cs hn hS ha
  cases v with
  | mk k bo i t ut ui items names =>
  have hA := ha
  unfold Val.At at ha
  obtain ⟨A, cap, nv, rfl, ⟨hk, hi, h1, h2, h3⟩, _, _, A2, cap2, rfl, _⟩ := ha
  have hm : ∀ x ∈ items, ∀ (w1 : World) (cx : List Value), (∀ b, S b → b < w1.heap.size) → Val.At S w1 x cx → Calls Tryz.prog 74 #[.agg cx.toArray] w1 (zcs x.can.1 x.can.2 w1) :=
   fun x hx w1 cx hs hx1 => ih x S w1 cx (by have := List.sizeOf_lt_of_mem hx; simp at hn; omega) hs hx1
  by_cases h5 : k = 5
  ·subst h5; exact canP5_ok bo i t ut ui items names S w A A2 cap cap2 hS hA hm
  by_cases h6 : k = 6
  ·subst h6; exact canP6_ok bo i t ut ui items names S w A A2 cap cap2 hS hA hm
  exact canP_plain k bo i t ut ui A A2 _ cap _ cap2 items names w h5 h6 hi h1 h2 h3
end Go.Proofs.YtbkaffhbhimglaaGreat

/-
  What the reference's canon, and both Canons, come to: the same plain function. The conditions: the value is not deeper than a million.
-/
namespace Go.Proofs.YtbkaffhbhimglaaGreat
open Go.RowKit
open Lib renaming hid → q_
set_option maxRecDepth 100000
set_option maxHeartbeats 1600000
theorem canR_plain (k : Int) (bo : Bool) (i : Int) (t ut ui : ByteArray) (A A2 : Option Addr) (l c l2 c2 : Nat) (items : List Val) (names : List ByteArray) (w : World) (h5 : k ≠ 5) (h6 : k ≠ 6) (hi : I64 i) (ht : t.size ≤ maxLen) (hut : ut.size ≤ maxLen) (hui : ui.size ≤ maxLen) :
  Calls Tryz.prog 119 #[.agg #[.int .i64 k, .bool bo, .int .i64 i, .string t, .string ut, .string ui, .slice A l c, .slice A2 l2 c2]] w
   (zcs (Val.mk k bo i t ut ui items names).can.1 (Val.mk k bo i t ut ui items names).can.2 w) := by
 have hz : I64 0 := by constructor <;> omega
 have hx : Ext w ((w.alloc (.cells #[.int .i64 k, .bool bo, .int .i64 i, .string t, .string ut, .string ui, .slice A l c, .slice A2 l2 c2] 46))) := (Ext.refl w).alloc _
 have HX := q_ hx
 have HI := q_ hi
 have HZ := q_ hz
 have HT := q_ ht
 have HUt := q_ hut
 have HUi := q_ hui
 have hd : (Val.mk k bo i t ut ui items names).can = if k = 1 then (.mk 1 bo 0 empty empty empty [] [], 0) else if k = 2 then (.mk 2 false i empty empty empty [] [], 0) else if k = 3 then (.mk 3 false 0 t empty empty [] [], 0) else if k = 4 then (.mk 4 false 0 empty ut ui [] [], 0) else (.zero, 1) := by
  simp [Val.can, h5, h6]
 have HD := q_ hd
 generalize (Val.mk k bo i t ut ui items names).can = res at *
 clear hx hi ht hut hui hd hz
 by_cases h1 : k = 1
 ·have HR : Hid (res = (.mk 1 bo 0 empty empty empty [] [], 0)) := q_ (by rw [HD.out, if_pos h1])
  subst h1
  clear h5 h6
  go_enter Tryz.func119, Tryz.ntmps119
  go_wp2
  rw [HR.out]
  exact bodyPost_ret (v := .tuple #[.agg #[.int .i64 1, .bool bo, .int .i64 0, .string ByteArray.empty, .string ByteArray.empty, .string ByteArray.empty, .slice none 0 0, .slice none 0 0], .int .i64 0]) (zaj (cs := [.int .i64 1, .bool bo, .int .i64 0, .string ByteArray.empty, .string ByteArray.empty, .string ByteArray.empty, .slice none 0 0, .slice none 0 0]) Tryz.results119 rfl zai zaf rfl ((zap _ _ (by simp)).alloc (by simp) _)) rfl ⟨_, rfl, Val.plain_at _ _ _ _ _ _ _ _ (by constructor <;> omega) HZ.out zbn zbn zbn, (HX.out.alloc _).alloc _⟩
 by_cases h2 : k = 2
 ·have HR : Hid (res = (.mk 2 false i empty empty empty [] [], 0)) := q_ (by rw [HD.out, if_neg h1, if_pos h2])
  subst h2
  clear h5 h6 h1
  go_enter Tryz.func119, Tryz.ntmps119
  go_wp2
  rw [HR.out]
  exact bodyPost_ret (v := .tuple #[.agg #[.int .i64 2, .bool false, .int .i64 i, .string ByteArray.empty, .string ByteArray.empty, .string ByteArray.empty, .slice none 0 0, .slice none 0 0], .int .i64 0]) (zaj (cs := [.int .i64 2, .bool false, .int .i64 i, .string ByteArray.empty, .string ByteArray.empty, .string ByteArray.empty, .slice none 0 0, .slice none 0 0]) Tryz.results119 rfl zai zaf rfl ((zap _ _ (by simp)).alloc (by simp) _)) rfl ⟨_, rfl, Val.plain_at _ _ _ _ _ _ _ _ (by constructor <;> omega) HI.out zbn zbn zbn, (HX.out.alloc _).alloc _⟩
 by_cases h3 : k = 3
 ·have HR : Hid (res = (.mk 3 false 0 t empty empty [] [], 0)) := q_ (by rw [HD.out, if_neg h1, if_neg h2, if_pos h3])
  subst h3
  clear h5 h6 h1 h2
  go_enter Tryz.func119, Tryz.ntmps119
  go_wp2
  rw [HR.out]
  exact bodyPost_ret (v := .tuple #[.agg #[.int .i64 3, .bool false, .int .i64 0, .string t, .string ByteArray.empty, .string ByteArray.empty, .slice none 0 0, .slice none 0 0], .int .i64 0]) (zaj (cs := [.int .i64 3, .bool false, .int .i64 0, .string t, .string ByteArray.empty, .string ByteArray.empty, .slice none 0 0, .slice none 0 0]) Tryz.results119 rfl zai zaf rfl ((zap _ _ (by simp)).alloc (by simp) _)) rfl ⟨_, rfl, Val.plain_at _ _ _ _ _ _ _ _ (by constructor <;> omega) HZ.out HT.out zbn zbn, (HX.out.alloc _).alloc _⟩
 by_cases h4 : k = 4
 ·have HR : Hid (res = (.mk 4 false 0 empty ut ui [] [], 0)) := q_ (by rw [HD.out, if_neg h1, if_neg h2, if_neg h3, if_pos h4])
  subst h4
  clear h5 h6 h1 h2 h3
  go_enter Tryz.func119, Tryz.ntmps119
  go_wp2
  rw [HR.out]
  exact bodyPost_ret (v := .tuple #[.agg #[.int .i64 4, .bool false, .int .i64 0, .string ByteArray.empty, .string ut, .string ui, .slice none 0 0, .slice none 0 0], .int .i64 0]) (zaj (cs := [.int .i64 4, .bool false, .int .i64 0, .string ByteArray.empty, .string ut, .string ui, .slice none 0 0, .slice none 0 0]) Tryz.results119 rfl zai zaf rfl ((zap _ _ (by simp)).alloc (by simp) _)) rfl ⟨_, rfl, Val.plain_at _ _ _ _ _ _ _ _ (by constructor <;> omega) HZ.out zbn HUt.out HUi.out, (HX.out.alloc _).alloc _⟩
 have HR : Hid (res = (.zero, 1)) := q_ (by rw [HD.out, if_neg h1, if_neg h2, if_neg h3, if_neg h4])
 by_cases hlow : k < 1
 ·have e1 : decide (k < 1) = true := by simpa using hlow
  clear h1 h2 h3 h4 h5 h6 hlow
  go_enter Tryz.func119, Tryz.ntmps119
  go_wp2
  rw [HR.out]
  exact bodyPost_ret (v := .tuple #[.agg zeroCells.toArray, .int .i64 1]) (zaj Tryz.results119 rfl zai zaf rfl (zap _ _ (by simp))) rfl ⟨zeroCells, rfl, Val.zero_at _ _, HX.out.alloc _⟩
 ·have e1 : decide (k < 1) = false := by simpa using hlow
  have e2 : decide (6 < k) = true := by simp; omega
  clear h1 h2 h3 h4 h5 h6 hlow
  go_enter Tryz.func119, Tryz.ntmps119
  go_wp2
  rw [HR.out]
  exact bodyPost_ret (v := .tuple #[.agg zeroCells.toArray, .int .i64 1]) (zaj Tryz.results119 rfl zai zaf rfl (zap _ _ (by simp))) rfl ⟨zeroCells, rfl, Val.zero_at _ _, HX.out.alloc _⟩
theorem canR_bad (bo : Bool) (i : Int) (t ut ui : ByteArray) (A A2 : Option Addr) (c c2 : Nat) (items : List Val) (names : List ByteArray) (w : World) (_hl1 : items.length ≤ 1073741824) (_hl2 : names.length ≤ 1073741824) (hnl : names.length ≠ items.length) :
  Calls Tryz.prog 119 #[.agg #[.int .i64 6, .bool bo, .int .i64 i, .string t, .string ut, .string ui, .slice A items.length c, .slice A2 names.length c2]] w
   (zcs (Val.mk 6 bo i t ut ui items names).can.1 (Val.mk 6 bo i t ut ui items names).can.2 w) := by
 have t0 : ((names.length : Int) != items.length) = true := by simp; omega
 have hr : (Val.mk 6 bo i t ut ui items names).can = (.zero, 1) := by rw [Val.can6, if_pos hnl]
 have HR := q_ hr
 generalize (Val.mk 6 bo i t ut ui items names).can = res at *
 clear hnl hr
 go_enter Tryz.func119, Tryz.ntmps119
 go_wp2
 rw [HR.out]
 exact bodyPost_ret (v := .tuple #[.agg zeroCells.toArray, .int .i64 1]) (zaj Tryz.results119 rfl zai zaf rfl (zap _ _ (by simp))) rfl ⟨zeroCells, rfl, Val.zero_at _ _, ((Ext.refl w).alloc _).alloc _⟩
theorem canR_ok (n : Nat) : ∀ (v : Val) (S : Nat → Prop) (w : World) (cs : List Value), SizeOf.sizeOf v ≤ n → (∀ b, S b → b < w.heap.size) → Val.At S w v cs →
  Calls Tryz.prog 119 #[.agg cs.toArray] w (zcs v.can.1 v.can.2 w) := by
 induction n with
 | zero => intro v; cases v; simp
 | succ n ih =>
  intro v S w cs hn hS ha
  cases v with
  | mk k bo i t ut ui items names =>
  have hA := ha
  unfold Val.At at ha
  obtain ⟨A, cap, nv, rfl, ⟨hk, hi, h1, h2, h3⟩, ⟨hl1, _⟩, _, A2, cap2, rfl, hl2, _⟩ := ha
  have hm : ∀ x ∈ items, ∀ (w1 : World) (cx : List Value), (∀ b, S b → b < w1.heap.size) → Val.At S w1 x cx → Calls Tryz.prog 119 #[.agg cx.toArray] w1 (zcs x.can.1 x.can.2 w1) :=
   fun x hx w1 cx hs hx1 => ih x S w1 cx (by have := List.sizeOf_lt_of_mem hx; simp at hn; omega) hs hx1
  by_cases h5 : k = 5
  ·subst h5; exact canR5_ok bo i t ut ui items names S w A A2 cap cap2 hS hA hm
  by_cases h6 : k = 6
  ·subst h6
   by_cases hnl : names.length = items.length
   ·exact canR6_ok bo i t ut ui items names S w A A2 cap cap2 hS hA hnl hm
   ·exact canR_bad bo i t ut ui A A2 cap cap2 items names w (by rwa [zak] at hl1) (by rwa [zak] at hl2) hnl
  exact canR_plain k bo i t ut ui A A2 _ cap _ cap2 items names w h5 h6 hi h1 h2 h3
theorem canon_okP (v : Val) (S : Nat → Prop) (w : World) (cs : List Value) (hd : v.dep ≤ 1000000) (hS : ∀ b, S b → b < w.heap.size) (ha : Val.At S w v cs) :
  Calls Tryz.prog 41 #[.agg cs.toArray] w (zcs v.canon.1 v.canon.2 w) := by
 obtain ⟨k1, b1, n1, t1, ut1, ui1, A1, l1, c1, A2, l2, c2, rfl⟩ := ha.shape
 have HS := q_ hS
 have Ha := q_ ha
 have HD := q_ (show v.canon = if 50 < v.dep then (.zero, 11) else v.can from rfl)
 have hd0 := v.dep_pos
 generalize v.canon = res at *
 clear hS ha
 have HX0 : Hid (Ext w ((w.alloc (.cells #[.int .i64 k1, .bool b1, .int .i64 n1, .string t1, .string ut1, .string ui1, .slice A1 l1 c1, .slice A2 l2 c2] 46)).alloc (.cells #[.int .i64 0, .bool false, .int .i64 0, .string ⟨#[]⟩, .string ⟨#[]⟩, .string ⟨#[]⟩, .slice none 0 0, .slice none 0 0] 46))) := q_ (((Ext.refl w).alloc _).alloc _)
 go_enter Tryz.func41, Tryz.ntmps41
 go_wp2_with fail
 generalize hW0 : (w.alloc (.cells #[.int .i64 k1, .bool b1, .int .i64 n1, .string t1, .string ut1, .string ui1, .slice A1 l1 c1, .slice A2 l2 c2] 46)).alloc (.cells #[.int .i64 0, .bool false, .int .i64 0, .string ⟨#[]⟩, .string ⟨#[]⟩, .string ⟨#[]⟩, .slice none 0 0, .slice none 0 0] 46) = W0 at *
 have HB0 : Hid (W0.heap[w.heap.size]? = some (.cells #[.int .i64 k1, .bool b1, .int .i64 n1, .string t1, .string ut1, .string ui1, .slice A1 l1 c1, .slice A2 l2 c2] 46 (0, 0))) := q_ (by rw [← hW0, Below.heap_alloc _ _ _ (by simp)]; exact zay rfl _)
 have HB1 : Hid (W0.heap[w.heap.size + 1]? = some (.cells zeroCells.toArray 46 (0, 0))) := q_ (by rw [← hW0]; exact zay (by simp) _)
 have HS0 : Hid (W0.heap.size = w.heap.size + 2) := q_ (by rw [← hW0]; simp)
 clear hW0
 refine (depth_okP _ v S _ [.int .i64 k1, .bool b1, .int .i64 n1, .string t1, .string ut1, .string ui1, .slice A1 l1 c1, .slice A2 l2 c2] (Nat.le_refl _) (by omega) (fun b hb => Nat.lt_of_lt_of_le (HS.out b hb) HX0.out.size) (Ha.out.alike (Alike.of_ext HX0.out HS.out))).mono ?_
 rintro e w1 ⟨rfl, hx1⟩
 have HX1 := q_ hx1
 have hcell := (hx1.block _ (zad HB1.out)).trans HB1.out
 have HB1' := q_ hcell
 have hbox := (hx1.block _ (zad HB0.out)).trans HB0.out
 have HB0' := q_ hbox
 clear hx1 hcell hbox
 by_cases h50 : 50 < v.dep
 ·have t0 : decide ((50 : Int) < v.dep) = true := by simp; omega
  have HR : Hid (res = (.zero, 11)) := q_ (by rw [HD.out, if_pos h50])
  clear h50
  go_wp2_with (refine zah rfl 46 _ _ rfl (w.heap.size + 1) 0 rfl zeroCells rfl zaf rfl 46 zeroCells.toArray HB1'.out (by simp [zeroCells]) zco ?_)
  rw [HR.out]
  exact bodyPost_ret (v := .tuple #[.agg zeroCells.toArray, .int .i64 11]) (zaj Tryz.results41 rfl zai zaf rfl (zao HB1'.out (by simp [zeroCells]))) rfl ⟨zeroCells, rfl, Val.zero_at _ _, (HX0.out.trans HX1.out).setRow (by omega) _⟩
 ·have t0 : decide ((50 : Int) < v.dep) = false := by simp; omega
  have HR : Hid (res = v.can) := q_ (by rw [HD.out, if_neg h50])
  clear h50
  go_wp2_with (refine zac rfl 46 _ rfl w.heap.size 0 rfl zai zaf rfl (fun j v hj => by rw [cell_of_row _ _ _ _ _ _ HB0'.out, Nat.zero_add]; simpa using hj) ?_)
  refine (canP_ok _ v S _ [.int .i64 k1, .bool b1, .int .i64 n1, .string t1, .string ut1, .string ui1, .slice A1 l1 c1, .slice A2 l2 c2] (Nat.le_refl _) (fun b hb => Nat.lt_of_lt_of_le (HS.out b hb) (HX0.out.trans HX1.out).size) (Ha.out.alike (Alike.of_ext (HX0.out.trans HX1.out) HS.out))).mono ?_
  rintro e w3 ⟨cs, rfl, hat, hx3⟩
  obtain ⟨k3, b3, n3, t3, ut3, ui3, A3, l3, c3, A4, l4, c4, rfl⟩ := hat.shape
  have HA := q_ hat
  have HX3 := q_ hx3
  have hcell := (hx3.block _ (zad HB1'.out)).trans HB1'.out
  have HCl := q_ hcell
  have hone := hat.one
  have HOne := q_ hone
  clear hat hx3 hcell hone
  rw [← HR.out] at HA
  generalize hq : v.can.2 = q
  have HQ : Hid (res.2 = q) := q_ (by rw [HR.out]; exact hq)
  clear hq
  go_wp2_with (refine zah rfl 46 _ _ rfl (w.heap.size + 1) 0 rfl [.int .i64 k3, .bool b3, .int .i64 n3, .string t3, .string ut3, .string ui3, .slice A3 l3 c3, .slice A4 l4 c4] rfl zaf rfl 46 zeroCells.toArray HCl.out (by simp [zeroCells]) HOne.out ?_)
  rw [HQ.out]
  refine bodyPost_ret (v := .tuple #[.agg #[.int .i64 k3, .bool b3, .int .i64 n3, .string t3, .string ut3, .string ui3, .slice A3 l3 c3, .slice A4 l4 c4], .int .i64 q]) (zaj Tryz.results41 rfl zai zaf rfl (zao HCl.out (by simp [zeroCells]))) rfl ⟨[.int .i64 k3, .bool b3, .int .i64 n3, .string t3, .string ut3, .string ui3, .slice A3 l3 c3, .slice A4 l4 c4], rfl, ?_, ((HX0.out.trans HX1.out).trans HX3.out).setRow (by omega) _⟩
  have hlow : w.heap.size + 2 ≤ w1.heap.size := by have := HS0.out; have := HX1.out.size; omega
  refine (HA.out.alike (w' := w3.setRow (w.heap.size + 1) _) (fun b hb => (GrownBy.setRow w3 (w.heap.size + 1) _).block b hb.2 (fun e => by injection e with e; have := hb.1; omega))).mono fun b hb => ⟨by have := hb.1; omega, by simpa [World.setRow] using hb.2⟩
theorem canon_okR (v : Val) (S : Nat → Prop) (w : World) (cs : List Value) (hd : v.dep ≤ 1000000) (hS : ∀ b, S b → b < w.heap.size) (ha : Val.At S w v cs) :
  Calls Tryz.prog 89 #[.agg cs.toArray] w (zcs v.canon.1 v.canon.2 w) := by
 obtain ⟨k1, b1, n1, t1, ut1, ui1, A1, l1, c1, A2, l2, c2, rfl⟩ := ha.shape
 have HS := q_ hS
 have Ha := q_ ha
 have HD := q_ (show v.canon = if 50 < v.dep then (.zero, 11) else v.can from rfl)
 have hd0 := v.dep_pos
 generalize v.canon = res at *
 clear hS ha
 have HX0 : Hid (Ext w ((w.alloc (.cells #[.int .i64 k1, .bool b1, .int .i64 n1, .string t1, .string ut1, .string ui1, .slice A1 l1 c1, .slice A2 l2 c2] 46)).alloc (.cells #[.int .i64 0, .bool false, .int .i64 0, .string ⟨#[]⟩, .string ⟨#[]⟩, .string ⟨#[]⟩, .slice none 0 0, .slice none 0 0] 46))) := q_ (((Ext.refl w).alloc _).alloc _)
 go_enter Tryz.func89, Tryz.ntmps89
 go_wp2_with fail
 generalize hW0 : (w.alloc (.cells #[.int .i64 k1, .bool b1, .int .i64 n1, .string t1, .string ut1, .string ui1, .slice A1 l1 c1, .slice A2 l2 c2] 46)).alloc (.cells #[.int .i64 0, .bool false, .int .i64 0, .string ⟨#[]⟩, .string ⟨#[]⟩, .string ⟨#[]⟩, .slice none 0 0, .slice none 0 0] 46) = W0 at *
 have HB0 : Hid (W0.heap[w.heap.size]? = some (.cells #[.int .i64 k1, .bool b1, .int .i64 n1, .string t1, .string ut1, .string ui1, .slice A1 l1 c1, .slice A2 l2 c2] 46 (0, 0))) := q_ (by rw [← hW0, Below.heap_alloc _ _ _ (by simp)]; exact zay rfl _)
 have HB1 : Hid (W0.heap[w.heap.size + 1]? = some (.cells zeroCells.toArray 46 (0, 0))) := q_ (by rw [← hW0]; exact zay (by simp) _)
 have HS0 : Hid (W0.heap.size = w.heap.size + 2) := q_ (by rw [← hW0]; simp)
 clear hW0
 refine (depth_okR _ v S _ [.int .i64 k1, .bool b1, .int .i64 n1, .string t1, .string ut1, .string ui1, .slice A1 l1 c1, .slice A2 l2 c2] (Nat.le_refl _) (by omega) (fun b hb => Nat.lt_of_lt_of_le (HS.out b hb) HX0.out.size) (Ha.out.alike (Alike.of_ext HX0.out HS.out))).mono ?_
 rintro e w1 ⟨rfl, hx1⟩
 have HX1 := q_ hx1
 have hcell := (hx1.block _ (zad HB1.out)).trans HB1.out
 have HB1' := q_ hcell
 have hbox := (hx1.block _ (zad HB0.out)).trans HB0.out
 have HB0' := q_ hbox
 clear hx1 hcell hbox
 by_cases h50 : 50 < v.dep
 ·have t0 : decide ((50 : Int) < v.dep) = true := by simp; omega
  have HR : Hid (res = (.zero, 11)) := q_ (by rw [HD.out, if_pos h50])
  clear h50
  go_wp2_with (refine zah rfl 46 _ _ rfl (w.heap.size + 1) 0 rfl zeroCells rfl zaf rfl 46 zeroCells.toArray HB1'.out (by simp [zeroCells]) zco ?_)
  rw [HR.out]
  exact bodyPost_ret (v := .tuple #[.agg zeroCells.toArray, .int .i64 11]) (zaj Tryz.results89 rfl zai zaf rfl (zao HB1'.out (by simp [zeroCells]))) rfl ⟨zeroCells, rfl, Val.zero_at _ _, (HX0.out.trans HX1.out).setRow (by omega) _⟩
 ·have t0 : decide ((50 : Int) < v.dep) = false := by simp; omega
  have HR : Hid (res = v.can) := q_ (by rw [HD.out, if_neg h50])
  clear h50
  go_wp2_with (refine zac rfl 46 _ rfl w.heap.size 0 rfl zai zaf rfl (fun j v hj => by rw [cell_of_row _ _ _ _ _ _ HB0'.out, Nat.zero_add]; simpa using hj) ?_)
  refine (canR_ok _ v S _ [.int .i64 k1, .bool b1, .int .i64 n1, .string t1, .string ut1, .string ui1, .slice A1 l1 c1, .slice A2 l2 c2] (Nat.le_refl _) (fun b hb => Nat.lt_of_lt_of_le (HS.out b hb) (HX0.out.trans HX1.out).size) (Ha.out.alike (Alike.of_ext (HX0.out.trans HX1.out) HS.out))).mono ?_
  rintro e w3 ⟨cs, rfl, hat, hx3⟩
  obtain ⟨k3, b3, n3, t3, ut3, ui3, A3, l3, c3, A4, l4, c4, rfl⟩ := hat.shape
  have HA := q_ hat
  have HX3 := q_ hx3
  have hcell := (hx3.block _ (zad HB1'.out)).trans HB1'.out
  have HCl := q_ hcell
  have hone := hat.one
  have HOne := q_ hone
  clear hat hx3 hcell hone
  rw [← HR.out] at HA
  generalize hq : v.can.2 = q
  have HQ : Hid (res.2 = q) := q_ (by rw [HR.out]; exact hq)
  clear hq
  go_wp2_with (refine zah rfl 46 _ _ rfl (w.heap.size + 1) 0 rfl [.int .i64 k3, .bool b3, .int .i64 n3, .string t3, .string ut3, .string ui3, .slice A3 l3 c3, .slice A4 l4 c4] rfl zaf rfl 46 zeroCells.toArray HCl.out (by simp [zeroCells]) HOne.out ?_)
  rw [HQ.out]
  refine bodyPost_ret (v := .tuple #[.agg #[.int .i64 k3, .bool b3, .int .i64 n3, .string t3, .string ut3, .string ui3, .slice A3 l3 c3, .slice A4 l4 c4], .int .i64 q]) (zaj Tryz.results89 rfl zai zaf rfl (zao HCl.out (by simp [zeroCells]))) rfl ⟨[.int .i64 k3, .bool b3, .int .i64 n3, .string t3, .string ut3, .string ui3, .slice A3 l3 c3, .slice A4 l4 c4], rfl, ?_, ((HX0.out.trans HX1.out).trans HX3.out).setRow (by omega) _⟩
  have hlow : w.heap.size + 2 ≤ w1.heap.size := by have := HS0.out; have := HX1.out.size; omega
  refine (HA.out.alike (w' := w3.setRow (w.heap.size + 1) _) (fun b hb => (GrownBy.setRow w3 (w.heap.size + 1) _).block b hb.2 (fun e => by injection e with e; have := hb.1; omega))).mono fun b hb => ⟨by have := hb.1; omega, by simpa [World.setRow] using hb.2⟩
end Go.Proofs.YtbkaffhbhimglaaGreat

/-
  What the program's Canon of entities comes to. The conditions: the entities lie in memory as they should, none is nested deeper than a million.
-/
namespace Go.Proofs.YtbkaffhbhimglaaGreat
open Go.RowKit
open Lib renaming hid → q_
set_option maxRecDepth 100000
set_option maxHeartbeats 1600000
theorem missing_ok (us : List Uid) (u : Uid) (hu : FitU u) (w : World) (bA B n : Nat) (h1 : OneBox w bA (.map (some B)) 90) (h2 : MapU w B (idx us) n) :
  Calls Tryz.prog 49 (#[valU u] ++ #[.pointer (some ⟨bA, 0, none⟩)]) w fun e w' => e = .returned (.bool (!(idx us u).isSome)) ∧ Ext w w' := by
 have HX := q_ ((Ext.refl w).alloc (.cells #[.string u.1, .string u.2] 43))
 have c0 := (h1.block (HX.out.block _ (zad h1))).cell
 have HM := q_ (h2.ext HX.out)
 have HU := q_ hu
 clear h1 h2 hu
 obtain ⟨bb, hbb⟩ : ∃ bb, (idx us u).isSome = bb := ⟨_, rfl⟩
 have HB := q_ hbb
 rw [hbb]
 clear hbb
 show Calls Tryz.prog 49 #[.agg #[.string u.1, .string u.2], .pointer (some ⟨bA, 0, none⟩)] w _
 go_enter Tryz.func49, Tryz.ntmps49
 go_wp2_with (at_lookup; refine zbu rfl _ _ rfl B _ _ rfl HM.out u HU.out rfl bb HB.out ?_; intro c hc hcl; clear hc)
 go_ret
 exact ⟨rfl, HX.out⟩
theorem byUid_ok (S : Nat → Prop) (a b : Ent) (w : World) (ca cb : List Value) (ha : entR.At S w a ca) (hb : entR.At S w b cb) :
  Calls Tryz.prog 56 (#[.agg ca.toArray, .agg cb.toArray] ++ #[]) w fun e w' => e = .returned (.int .i64 (cmpE a b)) ∧ Ext w w' := by
 obtain ⟨A1, l1, c1, k1, q1, n1, t1, u1, v1, A2, l2, c2, A3, l3, c3, rfl⟩ := zdj ha
 obtain ⟨A4, l4, c4, k2, q2, n2, t2, u2, v2, A5, l5, c5, A6, l6, c6, rfl⟩ := zdj hb
 clear ha hb
 show Calls Tryz.prog 56 #[_, _] w _
 go_enter Tryz.func56, Tryz.ntmps56
 go_wp2_with (go_at_call 52; refine (orderU_ok a.uid b.uid _).mono ?_; rintro e w' ⟨rfl, hx⟩; have HX := q_ hx; clear hx)
 go_ret
 exact ⟨rfl, (((Ext.refl w).alloc _).alloc _).trans HX.out⟩
/-! ### what is taken so far -/
theorem onesE_snoc {us : List Uid} {x : Ent} (h0 : (oneE us x).2 = 0) : ∀ {l ys : List Ent}, zbp us l = (ys, 0) → zbp us (l ++ [x]) = (ys ++ [(oneE us x).1], 0)
 | [], ys, h => by simp [zbp] at h; subst h; simp [zbp, h0]
 | y :: r, ys, h => by
  simp only [zbp] at h
  split at h
  ·rename_i h1; simp at h; exact absurd h.2 h1
  ·split at h
   ·rename_i h1; simp at h; exact absurd h.2 h1
   ·rename_i h1 h2
    simp at h1 h2 h
    subst h
    have := onesE_snoc h0 (l := r) (ys := (zbp us r).1) (by rw [← h2])
    simp [zbp, h1, this]
theorem onesE_bad {us : List Uid} {x : Ent} (h0 : (oneE us x).2 ≠ 0) : ∀ {l r ys : List Ent}, zbp us l = (ys, 0) → zbp us (l ++ x :: r) = ([], (oneE us x).2)
 | [], _, _, _ => by simp [zbp, h0]
 | y :: l, r, ys, h => by
  simp only [zbp] at h
  split at h
  ·rename_i h1; simp at h; exact absurd h.2 h1
  ·split at h
   ·rename_i h1; simp at h; exact absurd h.2 h1
   ·rename_i h1 h2
    simp at h1 h2
    have := onesE_bad h0 (l := l) (r := r) (ys := (zbp us l).1) (by rw [← h2])
    simp [zbp, h1, this, h0]
theorem onesE_length {us : List Uid} : ∀ {l : List Ent}, (zbp us l).2 = 0 → (zbp us l).1.length = l.length
 | [], _ => rfl
 | y :: r, h => by
  simp only [zbp] at h ⊢
  split at h
  ·rename_i h1; exact absurd h h1
  ·split at h
   ·rename_i h1; exact absurd h h1
   ·rename_i h1 h2
    simp at h2
    rw [if_neg h1, if_neg (by simpa using h2)]
    simp [onesE_length h2]
theorem oneE_uid (us : List Uid) (x : Ent) : (oneE us x).1.uid = x.uid := by
 unfold oneE
 split
 ·rfl
 ·split
  ·rfl
  ·split <;> rfl
theorem onesE_uids {us : List Uid} : ∀ {l : List Ent}, (zbp us l).2 = 0 → (zbp us l).1.map Ent.uid = l.map Ent.uid
 | [], _ => rfl
 | y :: r, h => by
  simp only [zbp] at h ⊢
  split at h
  ·rename_i h1; exact absurd h h1
  ·split at h
   ·rename_i h1; exact absurd h h1
   ·rename_i h1 h2
    simp at h2
    rw [if_neg h1, if_neg (by simpa using h2)]
    simp only [List.map_cons, onesE_uids h2]
    rw [oneE_uid]
theorem zda {us : List Uid} {x : Ent} (h : x.av.kind ≠ 6) : (oneE us x).2 = 1 := by simp [oneE, h]
theorem zd8 {us : List Uid} {x : Ent} (h : x.av.kind = 6) (hb : x.av.canon.2 ≠ 0) : (oneE us x).2 = x.av.canon.2 := by simp [oneE, h, hb]
theorem zdi {us : List Uid} {x : Ent} (h : x.av.kind = 6) (hb : x.av.canon.2 = 0) (hp : x.ps.any (fun p => !(idx us p).isSome) = true) : (oneE us x).2 = 20 := by
 have : x.ps.all (fun p => (idx us p).isSome) = false := by
  rw [← Bool.not_eq_true, List.all_eq_true]
  intro hall
  obtain ⟨p, hp1, hp2⟩ := List.any_eq_true.1 hp
  rw [hall p hp1] at hp2; cases hp2
 simp only [oneE, h, hb, this]; rfl
theorem oneE_good {us : List Uid} {x : Ent} (h : x.av.kind = 6) (hb : x.av.canon.2 = 0) (hp : x.ps.any (fun p => !(idx us p).isSome) = false) : oneE us x = (⟨x.uid, sortU ordU x.ps, x.av.canon.1⟩, 0) := by
 have : x.ps.all (fun p => (idx us p).isSome) = true := by
  rw [List.all_eq_true]
  intro p hp1
  have := (List.any_eq_false.1 hp) p hp1
  cases hi : idx us p with
  | none => rw [hi] at this; simp at this
  | some i => rfl
 simp only [oneE, h, hb, this]; rfl
theorem dedupU_sorted {l l' : List Uid} (hp : l'.Perm l) (hs : l'.Pairwise fun a b => ordU a b ≤ 0) : zbo ordU l' = sortU ordU l :=
 dedup_sorted GoodAt.ordU (P := fun _ => True) (fun _ _ _ _ h => zeo h) (fun _ _ => trivial) hp hs
theorem sortedE {l l' : List Ent} (hn : (l.map Ent.uid).Nodup) (hp : l'.Perm l) (hs : l'.Pairwise fun a b => cmpE a b ≤ 0) : l' = sortU cmpE l := by
 have hu : ∀ x y : Ent, x ∈ l → y ∈ l → cmpE x y = 0 → x = y := fun x y hx hy h => by
  have he := zeo h
  obtain ⟨i, hi⟩ := List.mem_iff_getElem?.1 hx
  obtain ⟨j, hj⟩ := List.mem_iff_getElem?.1 hy
  have h1 := za4 hn (i := i) (u := x.uid) (by simp [hi])
  have h2 := za4 hn (i := j) (u := x.uid) (by simp [hj, he])
  rw [h1] at h2
  obtain rfl := Option.some.inj h2
  rw [hi] at hj
  exact Option.some.inj hj
 have hd : zbo cmpE l' = sortU cmpE l := dedup_sorted GoodAt.cmpE (P := fun x => x ∈ l) hu (fun _ h => h) hp hs
 rw [← hd]
 have hn' : (l'.map Ent.uid).Nodup := (hp.map Ent.uid).nodup_iff.2 hn
 cases l' with
 | nil => rfl
 | cons x r =>
  have := zcf (c := cmpE) (l := x :: r) (k := r.length) (by simp) fun i a b hi ha hb h0 => by
   have he := zeo h0
   have h1 := za4 hn' (i := i) (u := a.uid) (by rw [List.getElem?_map, ha]; rfl)
   have h2 := za4 hn' (i := i + 1) (u := a.uid) (by rw [List.getElem?_map, hb]; simp [he])
   rw [h1] at h2
   have := Option.some.inj h2
   omega
  rw [List.take_of_length_le (by simp)] at this
  exact this.symm
def EntsErr (l : List Ent) (er : Int) (w : World) (e : Ending) (w' : World) : Prop :=
 ∃ v, e = .returned (.tuple #[v, .int .i64 er]) ∧ (∃ xs, w'.ownsRow w.heap.size 49 11 v l.length xs ∧ entR.Flat (Made w.heap.size w' v) w' l xs) ∧ Ext w w'
theorem EntsErr.none {er : Int} {w w' : World} (h : Ext w w') : EntsErr [] er w (.returned (.tuple #[.slice none 0 0, .int .i64 er])) w' := ⟨_, rfl, ⟨[], World.ownsRow_nil _ _ _ _, rfl⟩, h⟩
theorem zdr : (Tryz.prog.info? 49).map (fun i => (i.zero, i.size, i.bytes)) = some (some (.agg #[.string ByteArray.empty, .string ByteArray.empty, .slice none 0 0, .int .i64 0, .bool false, .int .i64 0, .string ByteArray.empty, .string ByteArray.empty, .string ByteArray.empty, .slice none 0 0, .slice none 0 0]), 11, 176) := by kernel_rfl
theorem Tryz.enter65 : ∀ args w, (callFunc 49 args).run Tryz.prog w = .ok (.enter 49 args) w := fun _ _ => by kernel_rfl
theorem Tryz.enter71 : ∀ args w, (callFunc 56 args).run Tryz.prog w = .ok (.enter 56 args) w := fun _ _ => by kernel_rfl
theorem lst1 {α : Type} {l : List α} (h : l.length = 1) : ∃ a, l = [a] := by
 match l, h with
 | [_], _ => exact ⟨_, rfl⟩
theorem lst2 {α : Type} {l : List α} (h : l.length = 2) : ∃ a b, l = [a, b] := by
 match l, h with
 | [_, _], _ => exact ⟨_, _, rfl⟩
theorem lst3 {α : Type} {l : List α} (h : l.length = 3) : ∃ a b c, l = [a, b, c] := by
 match l, h with
 | [_, _, _], _ => exact ⟨_, _, _, rfl⟩
theorem lst4 {α : Type} {l : List α} (h : l.length = 4) : ∃ a b c d, l = [a, b, c, d] := by
 match l, h with
 | [_, _, _, _], _ => exact ⟨_, _, _, _, rfl⟩
theorem lst9 {α : Type} {l : List α} (h : l.length = 9) : ∃ a0 a1 a2 a3 a4 a5 a6 a7 a8, l = [a0, a1, a2, a3, a4, a5, a6, a7, a8] := by
 match l, h with
 | [_, _, _, _, _, _, _, _, _], _ => exact ⟨_, _, _, _, _, _, _, _, _, rfl⟩
theorem Tryz.field60 (O : Nat) : ∀ w, (Instr.fieldAt 49 (.pointer (some ⟨O, 0, none⟩)) 0).run Tryz.prog w = .ok (.pointer (some ⟨O, 0, none⟩)) w := by
 intro w; simp [Instr.fieldAt, go_sem]
theorem Tryz.build57 (v0 v1 v2 v3 v4 v5 v6 v7 v8 v9 va : Value) : ∀ w, (Instr.buildSlice 26 1 #[(0, .agg #[v0, v1, v2, v3, v4, v5, v6, v7, v8, v9, va])]).run Tryz.prog w = .ok (.slice (some ⟨w.heap.size, 0, none⟩) 1 1) (w.alloc (.cells #[v0, v1, v2, v3, v4, v5, v6, v7, v8, v9, va] 49)) := by
 intro w; simp [Instr.buildSlice, go_sem]
theorem Tryz.built60 (s t : ByteArray) (A : Option Addr) (n c : Nat) (r0 : Int) (r1 : Bool) (r2 : Int) (r3 r4 r5 : ByteArray) (r6 : Option Addr) (r7 r8 : Nat) (r9 : Option Addr) (ra rb : Nat) : Tryz.prog.built 49 [(0, .agg #[.string s, .string t]), (1, .slice A n c), (2, .agg #[.int .i64 r0, .bool r1, .int .i64 r2, .string r3, .string r4, .string r5, .slice r6 r7 r8, .slice r9 ra rb])] =
  some #[.string s, .string t, .slice A n c, .int .i64 r0, .bool r1, .int .i64 r2, .string r3, .string r4, .string r5, .slice r6 r7 r8, .slice r9 ra rb] := by kernel_rfl
theorem zd5 {P : Program} {o : Oper} {a : Act} {w : World} (t : TypeId) (parts : Array (Nat × Operand)) (ho : o.op = .build t parts) {vals : List (Nat × Value)} (hv : (parts.map fun (i, x) => (i, a.eval x)).toList = vals) {cells : Array Value}
  (hb : P.built t vals = some cells) : (execOp a.eval o).run P w = .ok (.value (.agg cells)) w := by
 unfold execOp
 simp only [ho, Sem.run_bind, run_build w t _ cells (by rw [hv]; exact hb), Result.andThen_ok]
 rfl
def zaq (u : Uid) (v : Value) (av : List Value) : List Value := .string u.1 :: .string u.2 :: v :: av
def CompE (cB : Nat) (w7 : World) (d : List Uid) (v : Value) (W : World) : Prop :=
 Below cB w7 W ∧ w7.drawn ≤ W.drawn ∧ ∃ xs', W.ownsRow cB 43 2 v d.length xs' ∧ uidR.Flat (fun _ => True) W d xs'
def StageE (cB : Nat) (w7 : World) (d : List Uid) (u : Uid) (av : List Value) (base : Nat) (out : Value) (n : Nat) (xs : List Value) : List Value → World → Prop
 | [], W => Ext w7 W
 | [v1], W => CompE cB w7 d v1 W
 | [v1, e], W => CompE cB w7 d v1 W ∧ e = .agg (zaq u v1 av).toArray
 | [v1, e, bl], W => ∃ W1, CompE cB w7 d v1 W1 ∧ e = .agg (zaq u v1 av).toArray ∧ bl = .slice (some ⟨W1.heap.size, 0, none⟩) 1 1 ∧ W = W1.alloc (.cells (zaq u v1 av).toArray 49)
 | [v1, _, _, v2], W => ∃ W1, CompE cB w7 d v1 W1 ∧ W.ownsRow base 49 11 v2 (n + 1) (xs ++ zaq u v1 av) ∧ GrownBy (W1.alloc (.cells (zaq u v1 av).toArray 49)) W out.ownBlock ∧
   (v2.ownBlock = out.ownBlock ∨ v2.ownBlock = some (W1.alloc (.cells (zaq u v1 av).toArray 49)).heap.size)
 | _, _ => False
theorem ownsRow_blocks {w w' : World} {base : Nat} {e : TypeId} {size n : Nat} {v : Value} {xs : List Value} (h : w.ownsRow base e size v n xs) (k : ∀ b, v.ownBlock = some b → w'.heap[b]? = w.heap[b]?) : w'.ownsRow base e size v n xs := by
 obtain ⟨h1, h2⟩ := h
 refine ⟨h1, ?_⟩
 rcases h2 with h2 | ⟨g, cap, cur, hv, hg, hh, q⟩
 ·exact .inl h2
 ·exact .inr ⟨g, cap, cur, hv, hg, (k g (by rw [hv]; rfl)).trans hh, q⟩
theorem StageE.old {cB : Nat} {w7 : World} {d : List Uid} {u : Uid} {av : List Value} {base : Nat} {out : Value} {n : Nat} {xs vs : List Value} {W : World} (h : StageE cB w7 d u av base out n xs vs W) {c1 : Nat} (hb : ∀ b, out.ownBlock = some b → b < c1) (hc : cB ≤ w7.heap.size) :
  ∀ b, c1 ≤ b → b < cB → W.heap[b]? = w7.heap[b]? := by
 intro b h1 h2
 match vs, h with
 | [], h => exact (show Ext w7 W from h).block b (by omega)
 | [v1], h => exact h.1.block b h2
 | [v1, e], h => exact h.1.1.block b h2
 | [v1, e, bl], ⟨W1, hk, _, _, e'⟩ =>
  subst e'
  rw [heap_alloc_old _ _ (Nat.lt_of_lt_of_le (Nat.lt_of_lt_of_le h2 hc) hk.1.size)]
  exact hk.1.block b h2
 | [v1, e, bl, v2], ⟨W1, hk, _, hg, _⟩ =>
  have h3 : b < W1.heap.size := Nat.lt_of_lt_of_le (Nat.lt_of_lt_of_le h2 hc) hk.1.size
  rw [hg.block b (by simp; omega) (fun e => by have := hb b e.symm; omega), heap_alloc_old _ _ h3]
  exact hk.1.block b h2
 | _ :: _ :: _ :: _ :: _ :: _, h => exact h.elim
theorem canE_ok (S : Nat → Prop) (l : List Ent) (v : Value) (w : World) (hS : ∀ b, S b → b < w.heap.size) (hl : entR.RowsAt S w l v) (hlen : l.length ≤ 1048576) (hps : ∀ e ∈ l, e.ps.length ≤ 1048576) (hdep : ∀ e ∈ l, e.av.dep ≤ 1000000) :
  Calls Tryz.prog 24 #[v] w (EntsErr (zar l).1 (zar l).2 w) := by
 have hl' := hl
 obtain ⟨A, cap, rfl, ⟨hl0, hl1, hl2⟩, hlr⟩ := hl
 rw [zak] at hl0
 rw [zab] at hl2
 have HS := q_ hS
 have HL := q_ hlr
 have HL' := q_ hl'
 have HP := q_ hps
 have HDp := q_ hdep
 have hml : (l.map Ent.uid).length = l.length := List.length_map _
 have Hml := q_ hml
 have hdl := dis_le (l.map Ent.uid) l.length
 have hC : zar l = zar l := rfl
 conv at hC => rhs; unfold zar
 have HC := q_ hC
 generalize zar l = res at *
 clear hS hlr hl' hps hdep hml hC
 obtain ⟨i0, hi, hz0, hz1, hz2⟩ := info_parts zdr
 go_enter Tryz.func24, Tryz.ntmps24
 go_wp2_with fail
 refine (places_ok S l _ _ HS.out HL'.out hlen).mono ?_
 rintro e w1 ⟨B, rfl, hm, hb, hx⟩
 have HM := q_ hm
 have HX1 := q_ hx
 have HB := q_ hb
 clear hm hx hb
 by_cases hlong : 4096 < l.length
 ·have hlz : (4096 : Int) < l.length := by omega
  go_wp2_with fail
  go_ret2
  rw [HC.out, if_pos hlong]
  exact EntsErr.none (HX1.out.alloc _)
 have hlz : ¬ (4096 : Int) < l.length := by omega
 have HA := q_ (OneBox.new w1 (.map (some B)) 90)
 have HX2 := q_ (HX1.out.alloc (.cells #[.map (some B)] 90))
 have HM2 := q_ (HM.out.ext ((Ext.refl w1).alloc (.cells #[.map (some B)] 90)))
 have c0 := HA.out.cell
 by_cases htw : dis (l.map Ent.uid) l.length < l.length
 ·go_wp2_with (refine zd9 rfl _ rfl B _ _ rfl HM2.out ?_)
  go_ret2
  rw [HC.out, if_neg hlong, if_pos (fun hn => by have := dis_nodup hn; rw [Hml.out] at this; omega)]
  exact EntsErr.none HX2.out
 have hnd := nodup_of_dis (us := l.map Ent.uid) (by rw [Hml.out]; exact htw)
 have HN := q_ hnd
 have Hlong := q_ hlong
 clear hnd hdl hlong
 go_wp2_with (refine zd9 rfl _ rfl B _ _ rfl HM2.out ?_)
 go_loopw [5, 26] (fun u i wr => ∃ k : Nat, k ≤ l.length ∧ i = .int .i64 k ∧ Hid (Ext (w1.alloc (.cells #[.map (some B)] 90)) wr) ∧ Hid (∃ ys xs, zbp (l.map Ent.uid) (l.take k) = (ys, 0) ∧ wr.ownsRow (w1.heap.size + 1) 49 11 u ys.length xs ∧ entR.Flat (Made (w1.heap.size + 1) wr u) wr ys xs)) (fun _ i _ => l.length - (intOf i).toNat)
 case atStart => exact ⟨0, Nat.zero_le _, rfl, q_ (Ext.refl _), q_ ⟨[], [], rfl, World.ownsRow_nil _ _ _ _, rfl⟩⟩
 case round =>
  obtain ⟨k, hk, rfl, HXr, HO⟩ := hrel
  have HXw := q_ (HX2.out.trans HXr.out)
  by_cases hlt : k < l.length
  ·obtain ⟨b, o, rfl, hSb, hrow⟩ := HL.out (by omega)
   obtain ⟨x, hx⟩ : ∃ x, l[k]? = some x := ⟨_, List.getElem?_eq_getElem hlt⟩
   obtain ⟨cs, hca, hxa⟩ := hrow k x hx
   have Hca := q_ (hca.alike hSb (Alike.of_ext HXw.out HS.out))
   have Hx := q_ hx
   have Hxa := q_ (entR.alike hxa (Alike.of_ext HXw.out HS.out))
   obtain ⟨A1, l1, c1, q1, q2, q3, q4, q5, q6, A2, l2, c2, A3, l3, c3, rfl⟩ := zdj hxa
   have hkind : x.av.kind = q1 := by
    obtain ⟨pv, acs, e, _, _, hat⟩ := hxa
    injection e with _ e
    injection e with _ e
    injection e with _ e
    subst e
    cases hv : x.av with
    | mk kd bo n t ut ui items names =>
     rw [hv] at hat
     unfold Val.At at hat
     obtain ⟨_, _, _, e, _⟩ := hat
     injection e with e _
     injection e with _ e
     exact e.symm
   have HK := q_ hkind
   clear hx hxa hca hrow hSb hkind
   by_cases hk6 : q1 = 6
   ·subst hk6
    have Hbox := q_ (heap_alloc_new wr (.cells #[.string x.uid.1, .string x.uid.2, .slice A1 l1 c1, .int .i64 6, .bool q2, .int .i64 q3, .string q4, .string q5, .string q6, .slice A2 l2 c2, .slice A3 l3 c3] 49))
    have HXb := q_ ((Ext.refl wr).alloc (.cells #[.string x.uid.1, .string x.uid.2, .slice A1 l1 c1, .int .i64 6, .bool q2, .int .i64 q3, .string q4, .string q5, .string q6, .slice A2 l2 c2, .slice A3 l3 c3] 49))
    have HSr := q_ (show ∀ b, S b → b < wr.heap.size from fun b hb => Nat.lt_of_lt_of_le (HS.out b hb) HXw.out.size)
    have hparts := Hxa.out
    obtain ⟨pv, acs, e, hfu, hpr, hat⟩ := hparts
    injection e with _ e
    injection e with _ e
    injection e with e1 e
    subst e1 e
    have HFu := q_ hfu
    have HPr := q_ hpr
    have HAt := q_ hat
    clear hfu hpr hat
    go_wp2_with (first | refine zac rfl 49 _ rfl b (o + k * 11) rfl za0 zau rfl Hca.out ?_)
    refine (canon_okP x.av S _ [_, _, _, _, _, _, _, _] (HDp.out x (List.mem_of_getElem? Hx.out)) (fun b hb => Nat.lt_of_lt_of_le (HSr.out b hb) HXb.out.size) (HAt.out.alike (Alike.of_ext HXb.out HSr.out))).mono ?_
    rintro e w3 ⟨cs3, rfl, hat3, hx3⟩
    have HX3 := q_ (HXb.out.trans hx3)
    have HX3' := q_ hx3
    have HA3 := q_ hat3
    clear hx3 hat3
    obtain ⟨r0, r1, r2, r3, r4, r5, r6, r7, r8, r9, ra, rb, rfl⟩ := HA3.out.shape
    by_cases hbv : x.av.canon.2 = 0
    ·have t7 : (x.av.canon.2 != 0) = false := by simpa using hbv
     have Hbv := q_ hbv
     have HB8 := q_ (heap_alloc_new w3 (.cells #[.int .i64 r0, .bool r1, .int .i64 r2, .string r3, .string r4, .string r5, .slice r6 r7 r8, .slice r9 ra rb] 46))
     have HX8 := q_ ((Ext.refl w3).alloc (.cells #[.int .i64 r0, .bool r1, .int .i64 r2, .string r3, .string r4, .string r5, .slice r6 r7 r8, .slice r9 ra rb] 46))
     have HB7 := q_ ((HX8.out.block _ (Nat.lt_of_lt_of_le (by simp) HX3'.out.size)).trans ((HX3'.out.block _ (zad Hbox.out)).trans Hbox.out))
     have e2 := cell_of_row _ _ 2 _ _ _ HB7.out
     simp only [List.getElem?_toArray, List.getElem?_cons_succ, List.getElem?_cons_zero] at e2
     clear hbv
     have HBw := q_ (show ∀ b, S b → b < (w3.alloc (.cells #[.int .i64 r0, .bool r1, .int .i64 r2, .string r3, .string r4, .string r5, .slice r6 r7 r8, .slice r9 ra rb] 46)).heap.size from fun b hb => Nat.lt_of_lt_of_le (HSr.out b hb) (Nat.le_trans HX3.out.size HX8.out.size))
     have HPr3 := q_ (HPr.out.alike (Alike.of_ext (HX3.out.trans HX8.out) HSr.out))
     have hcf := containsFunc_okU 49 #[.pointer (some ⟨w1.heap.size, 0, none⟩)] (fun p => !(idx (l.map Ent.uid) p).isSome) S x.ps (.slice A1 l1 c1) _ Tryz.enter65 HBw.out HPr3.out (fun p _ hp W hW => missing_ok (l.map Ent.uid) p hp W w1.heap.size B (dis (l.map Ent.uid) l.length)
      (HA.out.block ((((HXr.out.trans HX3.out).trans HX8.out).trans hW).block _ (zad HA.out))) (HM2.out.ext (((HXr.out.trans HX3.out).trans HX8.out).trans hW)))
     cases hany : x.ps.any (fun p => !(idx (l.map Ent.uid) p).isSome) with
     | true =>
      rw [hany] at hcf
      have HCf := q_ hcf
      have hbad : zbp (l.map Ent.uid) l = ([], 20) := by
       obtain ⟨ys, xs, h1, _, _⟩ := HO.out
       have hb := zdi (us := l.map Ent.uid) HK.out Hbv.out hany
       have := onesE_bad (by rw [hb]; decide) (r := l.drop (k + 1)) h1
       rwa [zb1 Hx.out, hb] at this
      have Hbad := q_ hbad
      clear hcf hbad hany
      go_wp2_with (go_at_call 31; refine HCf.out.mono ?_; rintro e w5 ⟨rfl, hx5⟩; have HX5 := q_ hx5; clear hx5)
      go_ret2
      rw [HC.out, if_neg Hlong.out, if_neg (fun h => h HN.out), Hbad.out, if_pos (by decide)]
      exact EntsErr.none (((HXw.out.trans HX3.out).trans HX8.out).trans HX5.out)
     | false =>
      rw [hany] at hcf
      have HCf := q_ hcf
      have Hany := q_ hany
      clear hcf hany
      go_wp2_with (go_at_call 31; refine HCf.out.mono ?_; rintro e w5 ⟨rfl, hx5⟩; have HX5 := q_ hx5; clear hx5; have e3 := cell_of_row _ _ 2 _ _ _ ((HX5.out.block _ (zad HB7.out)).trans HB7.out); simp only [List.getElem?_toArray, List.getElem?_cons_succ, List.getElem?_cons_zero] at e3)
      have HX35 := q_ ((HX3.out.trans HX8.out).trans HX5.out)
      have HPr5 := q_ (HPr.out.alike (Alike.of_ext HX35.out HSr.out))
      have hS5 : ∀ b, S b → b < w5.heap.size := fun b hb => Nat.lt_of_lt_of_le (HSr.out b hb) HX35.out.size
      refine (cloneU_ok S x.ps _ w5 HPr5.out).mono ?_
      rintro e w6 ⟨v6, xs6, rfl, ho6, hf6, hx6⟩
      have Ho6 := q_ ho6
      have Hf6 := q_ hf6
      have HX6 := q_ hx6
      clear hS5 ho6 hf6 hx6 e2 e3 HCf
      obtain ⟨A6, c6, rfl⟩ := zax Ho6.out
      have hl6 : x.ps.length ≤ LIM := by have := HP.out x (List.mem_of_getElem? Hx.out); rw [zak]; omega
      have hsort := uidR.sort_ok Go.Proofs.Tryz.sortU 43 zb8 zbk ordU GoodAt.ordU 52 #[] Tryz.enterOrdU (fun _ => False) w5.heap.size w6 (.slice A6 x.ps.length c6) x.ps xs6 (fun w1 y z cy cz _ _ hy hz => by
       obtain ⟨rfl, _⟩ := hy
       obtain ⟨rfl, _⟩ := hz
       exact orderU_ok y z w1) (fun b hb => hb.elim) Ho6.out (Hf6.out _ _) hl6
      have HSo := q_ (show Calls Tryz.prog 51 #[.slice A6 x.ps.length c6, .func (.func 52) #[] #[]] w6 _ from hsort)
      clear hsort hl6
      go_wp2_with fail
      refine HSo.out.mono ?_
      rintro e w7 ⟨rfl, l7, xs7, hp7, hs7, ho7, hf7, hb7, hd7, hg7⟩
      have Hp7 := q_ hp7
      have Hs7 := q_ hs7
      have Ho7 := q_ ho7
      have Hf7 := q_ hf7
      have HX7 : Hid (Ext w5 w7) := q_ (zas HX6.out hg7 fun b e => (Ho6.out.lt b e).1)
      clear hp7 hs7 ho7 hf7 hb7 hd7 hg7 HSo
      go_wp2_with fail
      obtain ⟨ys, xs, hcans, hown, hflat⟩ := HO.out
      have Hc := q_ hcans
      have Ho := q_ hown
      have Hf := q_ hflat
      have hyl : ys.length = k := by
       have h1 := onesE_length (us := l.map Ent.uid) (l := l.take k) (by rw [hcans])
       rw [hcans] at h1
       simpa [List.length_take, Nat.min_eq_left hk] using h1
      have Hyl := q_ hyl
      have HX57 := q_ (HX35.out.trans HX7.out)
      have hdd : zbo ordU l7 = sortU ordU x.ps := dedupU_sorted Hp7.out Hs7.out
      have Hdd := q_ hdd
      have hp7l : l7.length = x.ps.length := Hp7.out.length_eq
      have Hp7l := q_ hp7l
      have hpl := HP.out x (List.mem_of_getElem? Hx.out)
      have Hpl := q_ hpl
      have hw35 : wr.heap.size < w5.heap.size ∧ w3.heap.size < w5.heap.size ∧ w5.heap.size ≤ w7.heap.size := by
       have h1 := (zad HB8.out)
       have h2 := HX5.out.size
       have h3 := zad HB7.out
       exact ⟨by omega, by omega, HX7.out.size⟩
      have Hw35 := q_ hw35
      have Hb7 := q_ ((HX7.out.block _ (by exact hw35.1)).trans ((HX5.out.block _ (zad HB7.out)).trans HB7.out))
      have Hb8 := q_ ((HX7.out.block _ (by exact hw35.2.1)).trans ((HX5.out.block _ (zad HB8.out)).trans HB8.out))
      clear hcans hown hflat hyl hdd hp7l hpl hw35 HO HPr3 HPr5
      refine staged_region 9 [4, 6, 7, 8] [u5, .pointer (some ⟨wr.heap.size, 0, none⟩), .agg #[.string x.uid.1, .string x.uid.2], .slice A6 x.ps.length c6, undef, .agg #[.int .i64 r0, .bool r1, .int .i64 r2, .string r3, .string r4, .string r5, .slice r6 r7 r8, .slice r9 ra rb], undef, undef, undef]
       (StageE w5.heap.size w7 (sortU ordU x.ps) x.uid [.int .i64 r0, .bool r1, .int .i64 r2, .string r3, .string r4, .string r5, .slice r6 r7 r8, .slice r9 ra rb] (w1.heap.size + 1) u5 ys.length xs) (by kernel_rfl) (by kernel_rfl) (by kernel_rfl) (by kernel_rfl)
       ⟨⟨rfl, rfl, rfl, Nat.le_refl _, fun _ _ => rfl⟩, Nat.le_succ _⟩ (fun i op hi hn ho vs W a hRR hold hat => ?_) (fun k' i op hk ho vs W a hvl hRR hold hat Q' K hK => ?_) ?_
      ·have hbw := hRR.old (c1 := wr.heap.size) (fun b hb => (Ho.out.lt b hb).2) Hw35.out.2.2
       rcases (by simp at hn; omega : i = 0 ∨ i = 1 ∨ i = 2 ∨ i = 3 ∨ i = 5) with rfl | rfl | rfl | rfl | rfl <;> obtain rfl := Option.some.inj ho
       ·exact zb4 rfl (hold 5 (by kernel_rfl))
       ·exact zbq _ _ _ rfl (hold 7 (by kernel_rfl)) (Tryz.field60 wr.heap.size)
       ·exact za5 _ _ rfl wr.heap.size 0 (hat 1 54 (by omega) (by kernel_rfl) (by kernel_rfl)) (cs := [.string x.uid.1, .string x.uid.2]) zb8 zbk rfl (fun j v hj => by
         rw [cell_of_row _ _ _ _ _ _ ((hbw _ (Nat.le_refl _) Hw35.out.1).trans Hb7.out)]
         match j, hj with
         | 0, h => simpa using h
         | 1, h => simpa using h)
       ·exact zb4 rfl (hold 11 (by kernel_rfl))
       ·exact za5 _ _ rfl w3.heap.size 0 (hold 8 (by kernel_rfl)) (cs := [.int .i64 r0, .bool r1, .int .i64 r2, .string r3, .string r4, .string r5, .slice r6 r7 r8, .slice r9 ra rb]) zai zaf rfl (fun j v hj => by
         rw [cell_of_row _ _ _ _ _ _ ((hbw _ HX3.out.size Hw35.out.2.1).trans Hb8.out)]
         simpa using hj)
      ·have hk4 : k' < 4 := by simpa using (List.getElem?_eq_some_iff.1 hk).1
       rcases (by omega : k' = 0 ∨ k' = 1 ∨ k' = 2 ∨ k' = 3) with rfl | rfl | rfl | rfl <;> obtain rfl := Option.some.inj hk <;> obtain rfl := Option.some.inj ho
       ·obtain rfl := List.eq_nil_of_length_eq_zero hvl
        have hRR : Ext w7 W := hRR
        refine wp_enter2 (Φ := fun v w' => CompE w5.heap.size w7 (sortU ordU x.ps) v w') (zc3 Tryz.func53 rfl rfl rfl (map_one (hat 3 56 (by omega) (by kernel_rfl) (by kernel_rfl)))) ?_ hK
        have hcmp := compactU_ok w5.heap.size W (.slice A6 x.ps.length c6) l7 xs7 (zam Ho7.out hRR) (za7 Hf7.out) (by rw [zak, Hp7l.out]; have := Hpl.out; omega)
        refine hcmp.mono ?_
        rintro e w' ⟨v', rfl, xs', o1, o2, o3, o4⟩
        rw [Hdd.out] at o1 o2
        exact ⟨_, rfl, (hRR.toBelow.mono Hw35.out.2.2).trans o3, Nat.le_trans hRR.drawn o4, xs', o1, za7 o2⟩
       ·obtain ⟨v1, rfl⟩ := lst1 hvl
        have hC1 : CompE w5.heap.size w7 (sortU ordU x.ps) v1 W := hRR
        obtain ⟨A7, c7, rfl⟩ := zax hC1.2.2.choose_spec.1
        refine wp_value2 (zd5 _ _ rfl (vals := [(0, .agg #[.string x.uid.1, .string x.uid.2]), (1, .slice A7 (sortU ordU x.ps).length c7), (2, .agg #[.int .i64 r0, .bool r1, .int .i64 r2, .string r3, .string r4, .string r5, .slice r6 r7 r8, .slice r9 ra rb])]) ?_ (Tryz.built60 _ _ _ _ _ _ _ _ _ _ _ _ _ _ _ _ _)) (hK _ _ ⟨hC1, rfl⟩)
        have h2 := hat 2 55 (by omega) (by kernel_rfl) (by kernel_rfl)
        have h4 := hat 4 57 (by omega) (by kernel_rfl) (by kernel_rfl)
        have h5 := hat 5 58 (by omega) (by kernel_rfl) (by kernel_rfl)
        simp only [List.map_toArray, List.map_cons, List.map_nil, h2, h4, h5]
        rfl
       ·obtain ⟨v1, e1, rfl⟩ := lst2 hvl
        obtain ⟨hC1, rfl⟩ := hRR
        have h6 := hat 6 59 (by omega) (by kernel_rfl) (by kernel_rfl)
        exact wp_value2 (exec_build _ _ rfl h6 (Tryz.build57 _ _ _ _ _ _ _ _ _ _ _ W)) (hK _ _ ⟨W, hC1, rfl, rfl, rfl⟩)
       ·obtain ⟨v1, e1, bl, rfl⟩ := lst3 hvl
        obtain ⟨W1, hC1, rfl, rfl, rfl⟩ := hRR
        have h0 := hat 0 53 (by omega) (by kernel_rfl) (by kernel_rfl)
        have h7 := hat 7 60 (by omega) (by kernel_rfl) (by kernel_rfl)
        obtain ⟨A7, c7, rfl⟩ := zax hC1.2.2.choose_spec.1
        have hoW : (W1.alloc (.cells (zaq x.uid (.slice A7 (sortU ordU x.ps).length c7) [.int .i64 r0, .bool r1, .int .i64 r2, .string r3, .string r4, .string r5, .slice r6 r7 r8, .slice r9 ra rb]).toArray 49)).ownsRow (w1.heap.size + 1) 49 11 u5 ys.length xs :=
         ownsRow_blocks (zam Ho.out HX57.out) fun b hb => by
          have h1 := (Ho.out.lt b hb).2
          have h2 := hC1.1.size
          have h3 := Hw35.out
          rw [heap_alloc_old _ _ (by omega)]
          exact hC1.1.block b (by omega)
        refine wp_append_at (.tmp 53) (.tmp 60) 26 rfl (w1.heap.size + 1) 49 i0 _ 11 176 Tryz.underlying26 hi hz0 hz1 hz2 rfl (by decide) u5 ys.length xs h0 hoW W1.heap.size 0 1 1 (zaq x.uid (.slice A7 (sortU ordU x.ps).length c7) [.int .i64 r0, .bool r1, .int .i64 r2, .string r3, .string r4, .string r5, .slice r6 r7 r8, .slice r9 ra rb]) h7 rfl (zap _ _ rfl) (by simp [zaq, Value.oneCell']) (by rw [zab]; have := Hyl.out; omega) (by have := Hyl.out; omega) (by have h1 := HXr.out.size; have h2 := HX57.out.size; have h3 := hC1.1.size; simp at h1 ⊢; omega) fun v' w' ho hg hbl => hK _ _ ⟨W1, hC1, ho, hg, hbl⟩
      ·intro zs vs W hzl hvl hRR hzs
       obtain ⟨v1, e1, bl, v2, rfl⟩ := lst4 hvl
       obtain ⟨z0, z1, z2, z3, z4, z5, z6, z7, z8, rfl⟩ := lst9 hzl
       have h8 : z8 = v2 := hzs 8 (by omega)
       subst h8
       obtain ⟨W1, hC1, ho9, hg9, hb9⟩ := hRR
       have Ho9 := q_ ho9
       have Hg9 := q_ hg9
       have Hb9 := q_ hb9
       have HC1 := q_ hC1
       obtain ⟨A9, c9, rfl⟩ := zax ho9
       clear hzs hzl hvl ho9 hg9 hb9 hC1
       simp only [List.take, List.drop, zaw]
       go_wp2_with fail
       have hone : oneE (l.map Ent.uid) x = (⟨x.uid, sortU ordU x.ps, x.av.canon.1⟩, 0) := oneE_good HK.out Hbv.out Hany.out
       have hW1 : Ext wr W1 := ⟨HX57.out.toBelow.trans (HC1.out.1.mono (by have := Hw35.out; omega)), Nat.le_trans HX57.out.drawn HC1.out.2.1⟩
       have hyE : entR.At (Fresh wr.heap.size W1) W1 ⟨x.uid, sortU ordU x.ps, x.av.canon.1⟩ (zaq x.uid v1 [.int .i64 r0, .bool r1, .int .i64 r2, .string r3, .string r4, .string r5, .slice r6 r7 r8, .slice r9 ra rb]) := by
        obtain ⟨hb1, hd1, xs', ho1, hf1⟩ := HC1.out
        have h35 := Hw35.out
        have h3s := HX3.out.size
        have hbs := hb1.size
        refine ⟨v1, _, rfl, HFu.out, ?_, ?_⟩
        ·refine zd3 (R := uidR) ho1 (za7 (S' := fun _ => False) hf1) ?_ (fun b hb => hb.elim) fun b hb => ?_
         ·have h1 := zci (c := ordU) x.ps
          have h2 := Hpl.out
          show (sortU ordU x.ps).length ≤ LIM
          rw [zak]; omega
         ·have := ho1.lt b hb
          exact ⟨by omega, this.2⟩
        ·refine (HA3.out.alike (w' := W1) fun b hb => ?_).mono fun b hb => ⟨Nat.le_trans HXb.out.size hb.1, by have := hb.2; omega⟩
         have h1 := hb.2
         rw [hb1.block b (by omega), HX7.out.block b (by omega), HX5.out.block b (Nat.lt_of_lt_of_le h1 HX8.out.size), HX8.out.block b h1]
       have hflat2 := Rep.flat_step Ho.out Hf.out hW1 ((Ext.refl W1).alloc (.cells (zaq x.uid v1 [.int .i64 r0, .bool r1, .int .i64 r2, .string r3, .string r4, .string r5, .slice r6 r7 r8, .slice r9 ra rb]).toArray 49)) (Nat.le_refl _) (by have := HXr.out.size; simp at this; omega) hyE Hg9.out Hb9.out
       have hfin : ∃ ys' xs', zbp (l.map Ent.uid) (l.take (k + 1)) = (ys', 0) ∧ W.ownsRow (w1.heap.size + 1) 49 11 (.slice A9 (ys.length + 1) c9) ys'.length xs' ∧ entR.Flat (Made (w1.heap.size + 1) W (.slice A9 (ys.length + 1) c9)) W ys' xs' := by
        refine ⟨_, _, ?_, ?_, hflat2⟩
        ·rw [za8 Hx.out]
         have := onesE_snoc (us := l.map Ent.uid) (x := x) (by rw [hone]) Hc.out
         rwa [hone] at this
        ·rw [List.length_append]; exact Ho9.out
       have hext2 : Ext (w1.alloc (.cells #[.map (some B)] 90)) W := zas ((HXr.out.trans hW1).alloc _) Hg9.out fun b e => by
        have := (Ho.out.lt b e).1
        simp; omega
       have HFin := q_ hfin
       have HE2 := q_ hext2
       clear hfin hext2 hflat2 hyE hW1 hone
       go_roundw
       case rel => exact ⟨k + 1, by omega, by go_num, q_ HE2.out, q_ HFin.out⟩
       case measure => simp [intOf]; omega
    ·have t7 : (x.av.canon.2 != 0) = true := by simpa using hbv
     have hbad : zbp (l.map Ent.uid) l = ([], x.av.canon.2) := by
      obtain ⟨ys, xs, h1, _, _⟩ := HO.out
      have hb := zd8 (us := l.map Ent.uid) HK.out hbv
      have := onesE_bad (by rw [hb]; exact hbv) (r := l.drop (k + 1)) h1
      rwa [zb1 Hx.out, hb] at this
     have Hbad := q_ hbad
     have Hbv := q_ hbv
     clear hbv hbad
     go_wp2_with fail
     go_ret2
     rw [HC.out, if_neg Hlong.out, if_neg (fun h => h HN.out), Hbad.out, if_pos Hbv.out]
     exact EntsErr.none ((HXw.out.trans HX3.out).alloc _)
   ·have t6 : (q1 != 6) = true := by simpa using hk6
    have hbad : zbp (l.map Ent.uid) l = ([], 1) := by
     obtain ⟨ys, xs, h1, _, _⟩ := HO.out
     have hb := zda (us := l.map Ent.uid) (x := x) (by rw [HK.out]; exact hk6)
     have := onesE_bad (by rw [hb]; decide) (r := l.drop (k + 1)) h1
     rwa [zb1 Hx.out, hb] at this
    have Hbad := q_ hbad
    clear hk6 hbad
    go_wp2_with (first | refine zac rfl 49 _ rfl b (o + k * 11) rfl za0 zau rfl Hca.out ?_)
    go_ret2
    rw [HC.out, if_neg Hlong.out, if_neg (fun h => h HN.out), Hbad.out, if_pos (by decide)]
    exact EntsErr.none (HXw.out.alloc _)
  ·have hke : k = l.length := by omega
   subst hke
   obtain ⟨ys, xs, hcans, hown, hflat⟩ := HO.out
   rw [List.take_length] at hcans
   have Hc := q_ hcans
   have Ho := q_ hown
   have Hf := q_ hflat
   clear hcans hown hflat HO
   go_wp2_with fail
   refine (round_ok S l _ wr (fun b hb => Nat.lt_of_lt_of_le (HS.out b hb) HXw.out.size) (HL'.out.alike (Alike.of_ext HXw.out HS.out)) hlen HP.out HN.out).mono ?_
   rintro e w2 ⟨r, rfl, hr, hx⟩
   have Hr := q_ hr
   have HX3 := q_ hx
   clear hr hx
   have hlen2 : ys.length ≤ LIM := by
    have := onesE_length (us := l.map Ent.uid) (l := l) (by rw [Hc.out])
    rw [Hc.out] at this
    rw [zak, this]; omega
   have HL2 := q_ hlen2
   clear hlen2
   cases r with
   | true =>
    go_wp2_with fail
    go_ret2
    rw [HC.out, if_neg Hlong.out, if_neg (fun h => h HN.out), Hc.out, if_neg (by simp), if_pos (show Rounded l by simpa using Hr.out)]
    exact EntsErr.none (HXw.out.trans HX3.out)
   | false =>
    have hS3 : ∀ b, Made (w1.heap.size + 1) wr u5 b → b < w2.heap.size ∧ u5.ownBlock ≠ some b := fun b hb => ⟨Nat.lt_of_lt_of_le hb.2.1 HX3.out.size, hb.2.2⟩
    have hsort := entR.sort_ok Go.Proofs.Tryz.sortE 49 za0 zau cmpE GoodAt.cmpE 56 #[] Tryz.enter71 (Made (w1.heap.size + 1) wr u5) (w1.heap.size + 1) w2 u5 ys xs (fun w1 x y cx cy _ _ hx hy => byUid_ok _ x y w1 cx cy hx hy) hS3 (zam Ho.out HX3.out) (Hf.out.alike (Alike.of_ext HX3.out fun b hb => hb.2.1)) HL2.out
    have HSo := q_ (show Calls Tryz.prog 55 #[u5, .func (.func 56) #[] #[]] w2 _ from hsort)
    clear hsort hS3
    go_wp2_with fail
    refine HSo.out.mono ?_
    rintro e w3 ⟨rfl, l', xs', hp, hs, ho', hf', hb', hd', hg'⟩
    have Hp := q_ hp
    have Hs := q_ hs
    have Ho' := q_ ho'
    have Hf' := q_ hf'
    have Hg' := q_ hg'
    clear hp hs ho' hf' hb' hd' hg' HSo
    go_wp2_with fail
    go_ret2
    have hfin : l' = sortU cmpE ys := sortedE (by
     have := onesE_uids (us := l.map Ent.uid) (l := l) (by rw [Hc.out])
     rw [Hc.out] at this
     rw [this]; exact HN.out) Hp.out Hs.out
    rw [HC.out, if_neg Hlong.out, if_neg (fun h => h HN.out), Hc.out, if_neg (by simp), if_neg (show ¬ Rounded l by simpa using Hr.out), ← hfin]
    have hsz := HX1.out.size
    refine ⟨_, rfl, ⟨xs', zd4 Ho'.out (by omega), Hf'.out.mono fun b hb => ⟨by have := hb.1; omega, Nat.lt_of_lt_of_le hb.2.1 (Nat.le_trans HX3.out.size Hg'.out.size), hb.2.2⟩⟩, ?_⟩
    exact zas (HXw.out.trans HX3.out) Hg'.out fun b e => by have := ((zam Ho.out HX3.out).lt b e).1; omega
end Go.Proofs.YtbkaffhbhimglaaGreat

/-
  Entities one above the other: what is to be told of them. No program in sight. The conditions: none (definitions and lemmas).
-/
namespace Go.Proofs.YtbkaffhbhimglaaGreat
open Go.RowKit
def abc : ByteArray := ⟨#[97, 98, 99, 100, 101, 102, 103, 104, 105, 106, 107, 108]⟩
def cN (i : Nat) : ByteArray := abc.extract i (i + 1)
def tU : ByteArray := ⟨#[85]⟩
def tA : ByteArray := ⟨#[97]⟩
def recV : Val := .mk 6 false 0 empty empty empty [] []
theorem recV_canon : recV.canon = (recV, 0) := by
 have : recV.dep ≤ 50 := by simp [recV, Val.dep, Val.deps]
 unfold Val.canon
 rw [if_neg (by omega)]
 simp [recV, Val.can, Val.cans, zbe, sortU]
section
variable {k : Nat} {close missing : Bool} {m : List Ent}
end
end Go.Proofs.YtbkaffhbhimglaaGreat

/-
  Plain laws behind layer 3's laws: sets with the same members are the same; a union's members; a set of one; a record's attributes. No program in sight. The conditions: none (lemmas).
-/
namespace Go.Proofs.YtbkaffhbhimglaaGreat
open Go.RowKit
theorem canon_is {v : Val} (h : v.canon.2 = 0) : v.canon.1.Is := by
 obtain ⟨_, h2, h3⟩ := Val.canon_ok h
 rw [h2]; exact Val.can_is h3
end Go.Proofs.YtbkaffhbhimglaaGreat

/-
  Entities as they must be: their order does not matter, nor do their parents'; told again they stay as they are. No program in sight. The conditions: none (definitions and lemmas).
-/
namespace Go.Proofs.YtbkaffhbhimglaaGreat
def GoodE (us : List Uid) (e : Ent) : Prop := e.av.kind = 6 ∧ e.av.canon.2 = 0 ∧ ∀ p ∈ e.ps, p ∈ us
def putE (e : Ent) : Ent := ⟨e.uid, sortU ordU e.ps, e.av.canon.1⟩
theorem oneE_of {us : List Uid} {e : Ent} (h : GoodE us e) : oneE us e = (putE e, 0) := by
 refine oneE_good h.1 h.2.1 (List.any_eq_false.2 fun p hp => ?_)
 obtain ⟨i, hi⟩ := idx_mem.1 (h.2.2 p hp)
 rw [hi]; simp
theorem canon_err_ne {e : Ent} (h : e.av.canon.2 ≠ 0) {us : List Uid} : (oneE us e).2 ≠ 0 := by
 by_cases hk : e.av.kind = 6
 ·rw [zd8 hk h]; exact h
 ·rw [zda hk]; decide
theorem oneE_iff {us : List Uid} {e : Ent} : (oneE us e).2 = 0 ↔ GoodE us e := by
 constructor
 ·intro h
  by_cases hk : e.av.kind = 6
  ·by_cases hc : e.av.canon.2 = 0
   ·refine ⟨hk, hc, fun p hp => ?_⟩
    by_cases hu : p ∈ us
    ·exact hu
    ·have := idx_none.2 hu
     rw [zdi hk hc (List.any_eq_true.2 ⟨p, hp, by rw [this]; rfl⟩)] at h
     cases h
   ·exact absurd h (canon_err_ne hc)
  ·rw [zda hk] at h; cases h
 ·intro h; rw [oneE_of h]
theorem onesE_of {us : List Uid} : ∀ {l : List Ent}, (∀ e ∈ l, GoodE us e) → zbp us l = (l.map putE, 0)
 | [], _ => rfl
 | e :: r, h => by
  have h1 := oneE_of (h e (by simp))
  have h2 := onesE_of (l := r) fun x hx => h x (by simp [hx])
  simp [zbp, h1, h2]
theorem onesE_iff {us : List Uid} : ∀ {l : List Ent}, (zbp us l).2 = 0 ↔ ∀ e ∈ l, GoodE us e
 | [] => by simp [zbp]
 | e :: r => by
  constructor
  ·intro h x hx
   simp only [zbp] at h
   split at h
   ·rename_i h1; exact absurd h h1
   ·rename_i h1
    split at h
    ·rename_i h2; exact absurd h h2
    ·rename_i h2
     simp only [ne_eq, Decidable.not_not] at h1 h2
     rcases List.mem_cons.1 hx with rfl | hx
     ·exact oneE_iff.1 h1
     ·exact onesE_iff.1 h2 x hx
  ·intro h; rw [onesE_of h]
structure Good (l : List Ent) : Prop where
 len : l.length ≤ 4096
 names : (l.map Ent.uid).Nodup
 ones : ∀ e ∈ l, GoodE (l.map Ent.uid) e
 round : ¬ Rounded l
theorem canonE_of {l : List Ent} (h : Good l) : zar l = (sortU cmpE (l.map putE), 0) := by
 unfold zar
 rw [if_neg (by have := h.len; omega), if_neg (fun k => k h.names), onesE_of h.ones, if_neg (by simp), if_neg h.round]
theorem canonE_iff {l : List Ent} : (zar l).2 = 0 ↔ Good l := by
 constructor
 ·intro h
  unfold zar at h
  split at h
  ·cases h
  ·split at h
   ·cases h
   ·split at h
    ·rename_i h3; exact absurd h h3
    ·split at h
     ·cases h
     ·rename_i h1 h2 h3 h4
      exact ⟨by omega, Classical.not_not.1 h2, onesE_iff.1 (Classical.not_not.1 h3), h4⟩
 ·intro h; rw [canonE_of h]
theorem canonE_bad {l : List Ent} (h : ¬ Good l) : (zar l).1 = [] := by
 unfold zar
 split
 ·rfl
 ·split
  ·rfl
  ·split
   ·rfl
   ·split
    ·rfl
    ·rename_i h1 h2 h3 h4
     exact absurd ⟨by omega, Classical.not_not.1 h2, onesE_iff.1 (Classical.not_not.1 h3), h4⟩ h
/-! ### the same, in another order -/
structure Alter (l m : List Ent) : Prop where
 len : m.length = l.length
 names : (m.map Ent.uid).Perm (l.map Ent.uid)
 there : ∀ e ∈ l, ∃ f ∈ m, f.uid = e.uid ∧ f.av = e.av ∧ ∀ p, p ∈ f.ps ↔ p ∈ e.ps
 back : ∀ f ∈ m, ∃ e ∈ l, f.uid = e.uid ∧ f.av = e.av ∧ ∀ p, p ∈ f.ps ↔ p ∈ e.ps
theorem Alter.symm {l m : List Ent} (h : Alter l m) : Alter m l :=
 ⟨h.len.symm, h.names.symm, fun f hf => let ⟨e, he, h1, h2, h3⟩ := h.back f hf; ⟨e, he, h1.symm, h2.symm, fun p => (h3 p).symm⟩, fun e he => let ⟨f, hf, h1, h2, h3⟩ := h.there e he; ⟨f, hf, h1.symm, h2.symm, fun p => (h3 p).symm⟩⟩
theorem Alter.good {l m : List Ent} (h : Alter l m) (hl : Good l) : Good m := by
 refine ⟨by rw [h.len]; exact hl.len, h.names.nodup_iff.2 hl.names, fun f hf => ?_, fun hr => hl.round (Rounded.congr (fun f hf => ?_) hr)⟩
 ·obtain ⟨e, he, h1, h2, h3⟩ := h.back f hf
  obtain ⟨k1, k2, k3⟩ := hl.ones e he
  exact ⟨by rw [h2]; exact k1, by rw [h2]; exact k2, fun p hp => h.names.mem_iff.2 (k3 p ((h3 p).1 hp))⟩
 ·obtain ⟨e, he, h1, _, h3⟩ := h.back f hf
  exact ⟨e, he, h1.symm, fun p hp => (h3 p).1 hp⟩
theorem sortU_names_mem {l : List Uid} {p : Uid} : p ∈ sortU ordU l ↔ p ∈ l := sortU_mem (P := fun _ => True) (fun _ _ _ _ h => zeo h) (fun _ _ => trivial) p
theorem sortU_names {a b : List Uid} (h : ∀ p, p ∈ a ↔ p ∈ b) : sortU ordU a = sortU ordU b :=
 zcn GoodAt.ordU (za3 GoodAt.ordU a) (za3 GoodAt.ordU b) fun p => by rw [sortU_names_mem, sortU_names_mem, h]
theorem putE_uids (l : List Ent) : (l.map putE).map Ent.uid = l.map Ent.uid := by
 rw [List.map_map]; rfl
theorem byUid_eq {l : List Ent} (hn : (l.map Ent.uid).Nodup) {x y : Ent} (hx : x ∈ l) (hy : y ∈ l) (h : cmpE x y = 0) : x = y := by
 have he := zeo h
 obtain ⟨i, hi⟩ := List.mem_iff_getElem?.1 hx
 obtain ⟨j, hj⟩ := List.mem_iff_getElem?.1 hy
 have h1 := za4 hn (i := i) (u := x.uid) (by simp [hi])
 have h2 := za4 hn (i := j) (u := x.uid) (by simp [hj, he])
 rw [h1] at h2
 obtain rfl := Option.some.inj h2
 rw [hi] at hj
 exact Option.some.inj hj
theorem sortE_mem {l : List Ent} (hn : (l.map Ent.uid).Nodup) (x : Ent) : x ∈ sortU cmpE l ↔ x ∈ l := sortU_mem (P := fun x => x ∈ l) (fun _ _ hx hy h => byUid_eq hn hx hy h) (fun _ h => h) x
theorem Alter.same {l m : List Ent} (h : Alter l m) (hl : Good l) : (zar m).1 = (zar l).1 := by
 have hm := h.good hl
 rw [canonE_of hl, canonE_of hm]
 have n1 : ((l.map putE).map Ent.uid).Nodup := by rw [putE_uids]; exact hl.names
 have n2 : ((m.map putE).map Ent.uid).Nodup := by rw [putE_uids]; exact hm.names
 refine zcn GoodAt.cmpE (za3 GoodAt.cmpE _) (za3 GoodAt.cmpE _) fun x => ?_
 rw [sortE_mem n1, sortE_mem n2, List.mem_map, List.mem_map]
 have key : ∀ {e f : Ent}, f.uid = e.uid → f.av = e.av → (∀ p, p ∈ f.ps ↔ p ∈ e.ps) → putE f = putE e := fun {e f} h1 h2 h3 => by
  unfold putE
  rw [h1, h2, sortU_names h3]
 constructor
 ·rintro ⟨f, hf, rfl⟩
  obtain ⟨e, he, h1, h2, h3⟩ := h.back f hf
  exact ⟨e, he, (key h1 h2 h3).symm⟩
 ·rintro ⟨e, he, rfl⟩
  obtain ⟨f, hf, h1, h2, h3⟩ := h.there e he
  exact ⟨f, hf, key h1 h2 h3⟩
/-! ### told again -/
theorem canon_kind {v : Val} (hk : v.kind = 6) (h : v.canon.2 = 0) : v.canon.1.kind = 6 := by
 obtain ⟨_, h2, h3⟩ := Val.canon_ok h
 rw [h2]
 rw [Val.can_def] at h3 ⊢
 rw [if_neg (by omega), if_neg (by omega), if_neg (by omega), if_neg (by omega), if_neg (by omega), if_pos hk] at h3 ⊢
 split at h3
 ·cases h3
 ·rename_i g1
  rw [if_neg g1]
  split at h3
  ·rename_i g2; exact absurd h3 g2
  ·rename_i g2
   rw [if_neg g2]
   split at h3
   ·cases h3
   ·rename_i g3
    rw [if_neg g3]
    unfold zbe at h3 ⊢
    split at h3
    ·rename_i g4; rw [if_pos g4]; rfl
    ·cases h3
theorem canonE_mem {l : List Ent} (h : Good l) (x : Ent) : x ∈ (zar l).1 ↔ ∃ e ∈ l, putE e = x := by
 have n1 : ((l.map putE).map Ent.uid).Nodup := by rw [putE_uids]; exact h.names
 rw [canonE_of h, sortE_mem n1, List.mem_map]
theorem nodup_of_map {α β : Type} (f : α → β) {l : List α} (h : (l.map f).Nodup) : l.Nodup :=
 (List.pairwise_map.1 h).imp fun {a b} h e => h (by rw [e])
theorem zex {l : List Ent} (h : Good l) : (zar l).1.Perm (l.map putE) := by
 have n1 : ((l.map putE).map Ent.uid).Nodup := by rw [putE_uids]; exact h.names
 rw [canonE_of h]
 refine (List.perm_ext_iff_of_nodup ?_ (nodup_of_map _ n1)).2 fun x => sortE_mem n1 x
 exact (za3 GoodAt.cmpE _).imp fun {a b} h e => by subst e; rw [(GoodAt.cmpE a).refl] at h; cases h
theorem canonE_names {l : List Ent} (h : Good l) : ((zar l).1.map Ent.uid).Perm (l.map Ent.uid) := by
 rw [← putE_uids l]
 exact (zex h).map _
theorem canonE_length {l : List Ent} (h : Good l) : (zar l).1.length = l.length := by
 rw [(zex h).length_eq, List.length_map]
end Go.Proofs.YtbkaffhbhimglaaGreat

/-
  What layer 5's awake comes to: true. The conditions: none.
-/
namespace Go.Proofs.YtbkaffhbhimglaaGreat
open Go.RowKit
def tB : ByteArray := ⟨#[98]⟩
def uA : Uid := (tU, tA)
def uB : Uid := (tU, tB)
theorem flat_block {α : Type} {R : Rep α} {S : Nat → Prop} {w : World} {l : List α} {xs : List Value} {b : Nat} {T : TypeId} {fz : Nat × Nat} (h : w.heap[b]? = some (.cells xs.toArray T fz)) (hf : R.Flat S w l xs) (hb : S b) (hl : l.length ≤ LIM) {n cap : Nat} (hn : n = l.length) (hc : l.length ≤ cap) (hcm : cap ≤ maxLen) :
  R.RowsAt S w l (.slice (some ⟨b, 0, none⟩) n cap) := by
 subst hn
 exact ⟨_, cap, rfl, ⟨hl, hc, hcm⟩, fun _ => ⟨b, 0, rfl, hb, hf.row fun j v hj => by rw [cell_of_row _ _ _ _ _ _ h]; simpa using hj⟩⟩
def recC : List Value := [.int .i64 6, .bool false, .int .i64 0, .string ByteArray.empty, .string ByteArray.empty, .string ByteArray.empty, .slice none 0 0, .slice none 0 0]
theorem recV_at (S : Nat → Prop) (w : World) : Val.At S w recV recC := by
 unfold recV Val.At
 refine ⟨none, 0, .slice none 0 0, rfl, ⟨⟨by omega, by omega⟩, ⟨by omega, by omega⟩, ?_, ?_, ?_⟩, ⟨by rw [zak]; simp, by simp, by simp⟩, by simp, none, 0, rfl, by rw [zak]; simp, by simp, by simp, by simp, by simp⟩ <;> (rw [zab]; decide)
/-! ### single operations -/
theorem exec_pick {P : Program} {o : Oper} {a : Act} {w : World} {c x y : Operand} {v : Value} (ho : o.op = .pick c x y) (hc : a.eval c = .bool true) (hx : a.eval x = v) : (execOp a.eval o).run P w = .ok (.value v) w := by
 unfold execOp
 simp [ho, hc, hx, asBool]
theorem Tryz.agg58 : ∀ w, (isAgg 47).run Tryz.prog w = .ok false w := fun _ => by kernel_rfl
theorem zev (O : Nat) : ∀ w, (Instr.fieldAt 49 (.pointer (some ⟨O, 0, none⟩)) 1).run Tryz.prog w = .ok (.pointer (some ⟨O, 2, none⟩)) w := by
 intro w; simp [Instr.fieldAt, go_sem]
/-! ### how far the last statement is -/
def entZ (s : Nat) : Value := .agg #[.string tU, .string tA, .slice (some ⟨s, 0, none⟩) 1 1, .int .i64 0, .bool false, .int .i64 0, .string ByteArray.empty, .string ByteArray.empty, .string ByteArray.empty, .slice none 0 0, .slice none 0 0]
def vals5 (s : Nat) : List Value := [.int .i64 (-1), .bool true, .bool true, .bool true, .slice (some ⟨s, 0, none⟩) 1 1, entZ s, .slice (some ⟨s + 1, 0, none⟩) 1 1, .bool true, .bool true]
def obj1 : Obj := .cells #[.string tU, .string tA] 43
def obj2 (s : Nat) : Obj := .cells #[.string tU, .string tA, .slice (some ⟨s, 0, none⟩) 1 1, .int .i64 0, .bool false, .int .i64 0, .string ByteArray.empty, .string ByteArray.empty, .string ByteArray.empty, .slice none 0 0, .slice none 0 0] 49
structure Stage5 (w9 : World) (vs : List Value) (W : World) : Prop where
 ex : ∃ W1, Ext w9 W1 ∧ vs = (vals5 W1.heap.size).take vs.length ∧ (vs.length ≤ 4 → W = W1) ∧ (vs.length = 5 ∨ vs.length = 6 → W = W1.alloc obj1) ∧ (vs.length = 7 → W = (W1.alloc obj1).alloc (obj2 W1.heap.size)) ∧ (8 ≤ vs.length → Ext w9 W)
section
variable {w9 : World} {vs : List Value} {W : World}
theorem Stage5.ext (h : Stage5 w9 vs W) : Ext w9 W := by
 obtain ⟨W1, h1, _, h3, h4, h5, h6⟩ := h.ex
 rcases (by omega : vs.length ≤ 4 ∨ (vs.length = 5 ∨ vs.length = 6) ∨ vs.length = 7 ∨ 8 ≤ vs.length) with h | h | h | h
 ·rw [h3 h]; exact h1
 ·rw [h4 h]; exact h1.alloc _
 ·rw [h5 h]; exact (h1.alloc _).alloc _
 ·exact h6 h
theorem Stage5.at (h : Stage5 w9 vs W) {k : Nat} {v : Value} (hk : k < vs.length) (hv : ∀ s, (vals5 s)[k]? = some v) : vs.getD k undef = v := by
 obtain ⟨W1, _, h2, _⟩ := h.ex
 have h3 : vs[k]? = some v := by
  conv => lhs; rw [h2]
  rw [List.getElem?_take, if_pos hk]; exact hv _
 rw [List.getD_eq_getElem?_getD, h3]; rfl
theorem vals5_snoc {s n : Nat} {vs : List Value} {v : Value} (h : vs = (vals5 s).take vs.length) (hn : vs.length = n) (hv : (vals5 s)[n]? = some v) : vs ++ [v] = (vals5 s).take (vs ++ [v]).length := by
 rw [List.length_append, hn, List.length_singleton, za8 hv, ← hn, ← h]
theorem Stage5.next (h : Stage5 w9 vs W) {k : Nat} {v : Value} (hl : vs.length = k) (hk : k ≤ 3) (hv : ∀ s, (vals5 s)[k]? = some v) : Stage5 w9 (vs ++ [v]) W := by
 obtain ⟨W1, h1, h2, h3, _⟩ := h.ex
 exact ⟨W1, h1, vals5_snoc h2 hl (hv _), fun _ => h3 (by omega), fun h => by simp at h; omega, fun h => by simp at h; omega, fun h => by simp at h; omega⟩
theorem Stage5.late (h : Stage5 w9 vs W) (hl : vs.length = 7) {w' : World} (h' : Ext w9 w') : Stage5 w9 (vs ++ [.bool true]) w' := by
 obtain ⟨W1, h1, h2, _⟩ := h.ex
 exact ⟨W1, h1, vals5_snoc h2 hl rfl, fun h => by simp at h; omega, fun h => by simp at h; omega, fun h => by simp at h; omega, fun _ => h'⟩
end
end Go.Proofs.YtbkaffhbhimglaaGreat
