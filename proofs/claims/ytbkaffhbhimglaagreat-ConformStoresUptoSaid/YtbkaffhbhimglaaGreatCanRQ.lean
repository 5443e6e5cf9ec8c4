/-
  What the reference's canon comes to: the same plain function as the program's. The conditions: none beyond each contract's own.
-/
import Derived.Test.YtbkaffhbhimglaaGreatGd
namespace Go.Proofs.YtbkaffhbhimglaaGreat
open Go.RowKit
open Lib renaming hid → q_
set_option maxRecDepth 100000
set_option maxHeartbeats 1600000
theorem canR5_ok (bo : Bool) (i : Int) (t ut ui : ByteArray) (items : List Val) (names : List ByteArray) (S : Nat → Prop) (w : World) (A A2 : Option Addr) (cap cap2 : Nat)
  (hS : ∀ b, S b → b < w.heap.size) (ha : Val.At S w (.mk 5 bo i t ut ui items names) [.int .i64 5, .bool bo, .int .i64 i, .string t, .string ut, .string ui, .slice A items.length cap, .slice A2 names.length cap2])
  (hc : ∀ x ∈ items, ∀ (w1 : World) (cx : List Value), (∀ b, S b → b < w1.heap.size) → Val.At S w1 x cx → Calls Tryz.prog 119 #[.agg cx.toArray] w1 (zcs x.can.1 x.can.2 w1)) :
  Calls Tryz.prog 119 #[.agg #[.int .i64 5, .bool bo, .int .i64 i, .string t, .string ut, .string ui, .slice A items.length cap, .slice A2 names.length cap2]] w
   (zcs (Val.mk 5 bo i t ut ui items names).can.1 (Val.mk 5 bo i t ut ui items names).can.2 w) := by
 have hva := ha.vals
 obtain ⟨_, _, e1, ⟨hi1, hi2, hi3⟩, hlr⟩ := id hva
 injection e1 with q1 _ q2
 subst q1 q2
 rw [zak] at hi1
 rw [zab] at hi3
 have HS := q_ hS
 have HC := q_ hc
 have HL := q_ hlr
 have hi0 := q_ (show (Val.mk 5 bo i t ut ui items names).can = if (Val.cans items).2 ≠ 0 then (.zero, (Val.cans items).2) else if 4096 < items.length then (.zero, 12) else (.mk 5 false 0 empty empty empty (sortU Val.ord (Val.cans items).1) [], 0) by simp [Val.can])
 generalize (Val.mk 5 bo i t ut ui items names).can = res at *
 clear hS hc hlr ha hva
 obtain ⟨i0, hi, hz0, hz1, hz2⟩ := info_parts zen
 go_enter Tryz.func119, Tryz.ntmps119
 go_wp2_with fail
 generalize hW0 : ((w.alloc (.cells #[.int .i64 5, .bool bo, .int .i64 i, .string t, .string ut, .string ui, .slice A items.length cap, .slice A2 names.length cap2] 46)).alloc (.cells #[.int .i64 0, .bool false, .int .i64 0, .string ⟨#[]⟩, .string ⟨#[]⟩, .string ⟨#[]⟩, .slice none 0 0, .slice none 0 0] 46)).alloc (.cells #[.int .i64 5, .bool false, .int .i64 0, .string ⟨#[]⟩, .string ⟨#[]⟩, .string ⟨#[]⟩, .slice none 0 0, .slice none 0 0] 46) = W0
 have hw0 : Ext w W0 := by rw [← hW0]; exact (((Ext.refl w).alloc _).alloc _).alloc _
 have hb0 : W0.heap[w.heap.size]? = some (.cells #[.int .i64 5, .bool bo, .int .i64 i, .string t, .string ut, .string ui, .slice A items.length cap, .slice A2 names.length cap2] 46 (0, 0)) := by
  rw [← hW0, Below.heap_alloc _ _ _ (by simp; omega), Below.heap_alloc _ _ _ (by simp)]; exact zay rfl _
 have hb1 : W0.heap[w.heap.size + 1]? = some (.cells zeroCells.toArray 46 (0, 0)) := by
  rw [← hW0, Below.heap_alloc _ _ _ (by simp)]; exact zay (by simp) _
 have hb2 : W0.heap[w.heap.size + 2]? = some (.cells #[.int .i64 5, .bool false, .int .i64 0, .string ByteArray.empty, .string ByteArray.empty, .string ByteArray.empty, .slice none 0 0, .slice none 0 0] 46 (0, 0)) := by
  rw [← hW0]; exact zay (by simp) _
 have hs0 : W0.heap.size = w.heap.size + 3 := by rw [← hW0]; simp
 have HW := q_ hw0
 have HB0 := q_ hb0
 have HB1 := q_ hb1
 have HB2 := q_ hb2
 have HS0 := q_ hs0
 have HSW := q_ (show ∀ b, S b → b < W0.heap.size from fun b hb => Nat.lt_of_lt_of_le (HS.out b hb) hw0.size)
 clear hW0 hw0 hb0 hb1 hb2 hs0
 go_loopw [5, 6] (fun u i wr => ∃ k : Nat, k ≤ items.length ∧ i = .int .i64 k ∧ Ext W0 wr ∧ Hid (∃ ys xs, Val.cans (items.take k) = (ys, 0) ∧ wr.ownsRow W0.heap.size 46 8 u ys.length xs ∧ Flat (Made W0.heap.size wr u) wr ys xs)) (fun _ i _ => items.length - (intOf i).toNat)
 case atStart => exact ⟨0, Nat.zero_le _, rfl, Ext.refl W0, [], [], by simp [Val.cans], World.ownsRow_nil _ _ _ _, rfl⟩
 case round =>
  obtain ⟨k, hk, rfl, hext, Hown⟩ := hrel
  have HX := q_ hext
  have HSr := q_ (show ∀ b, S b → b < wr.heap.size from fun b hb => Nat.lt_of_lt_of_le (HSW.out b hb) hext.size)
  have hb0 := (hext.block _ (zad HB0.out)).trans HB0.out
  have HB0r := q_ hb0
  have p6 : wr.cell? ⟨w.heap.size, 6, none⟩ = some (.slice A items.length cap) := by rw [cell_of_row _ _ _ _ _ _ hb0]; rfl
  clear hext hb0
  by_cases hlt : k < items.length
  ·obtain ⟨b, o, rfl, hSb, hrow⟩ := HL.out (by omega)
   obtain ⟨x, hx⟩ : ∃ x, items[k]? = some x := ⟨_, List.getElem?_eq_getElem hlt⟩
   obtain ⟨cs, hcl, hca, hxa⟩ := hrow.get hx
   have Hca := q_ (hca.alike hSb (Alike.of_ext (HW.out.trans HX.out) HS.out))
   have Hxa := q_ (hxa.alike (Alike.of_ext (HW.out.trans HX.out) HS.out))
   have Hx := q_ hx
   clear hx hxa hca hrow hcl hSb
   obtain ⟨k1, b1, n1, t1, ut1, ui1, A1, l1, c1, A2', l2, c2, rfl⟩ := Hxa.out.shape
   go_wp2_with (refine zac rfl 46 _ rfl b (o + k * 8) rfl zai zaf rfl Hca.out ?_)
   refine (HC.out x (List.mem_of_getElem? Hx.out) _ [_, _, _, _, _, _, _, _] HSr.out Hxa.out).mono ?_
   rintro e w1 ⟨ys, rfl, hy, hx1⟩
   have Hy := q_ hy
   have HX1 := q_ hx1
   clear hy hx1 p6
   obtain ⟨k3, b3, n3, t3, ut3, ui3, A3, l3, c3, A4, l4, c4, rfl⟩ := Hy.out.shape
   by_cases he : x.can.2 = 0
   ·have e0 : (x.can.2 != 0) = false := by simpa using he
    have He := q_ he
    clear he
    obtain ⟨ys0, xs, hcans, hown, hflat⟩ := Hown.out
    have Hc := q_ hcans
    have Ho := q_ hown
    have Hf := q_ hflat
    have hlen : ys0.length = k := by
     have h1 := Val.cans_length (l := items.take k) (by rw [hcans])
     rw [hcans] at h1
     simpa [List.length_take, Nat.min_eq_left hk] using h1
    have hbd : ys0.length + 1 ≤ 1073741824 := by omega
    have Hle := q_ hlen
    clear hcans hown hflat hlen Hown
    go_wp2_with (at_builtin; refine za1 rfl (.tmp 87) (.tmp 89) 44 rfl W0.heap.size 46 i0 (.agg zeroCells.toArray) 8 120 Tryz.underlying44 hi hz0 hz1 hz2 rfl (by decide) _ ys0.length xs rfl (zam Ho.out ((HX1.out.alloc _).alloc _)) (w1.heap.size + 1) 0 1 1 [.int .i64 k3, .bool b3, .int .i64 n3, .string t3, .string ut3, .string ui3, .slice A3 l3 c3, .slice A4 l4 c4] rfl rfl (zap _ _ (by simp)) Hy.out.one (by rw [zab]; omega) (by omega) ((HX.out.trans HX1.out).alloc _ |>.alloc _).size ?_)
    intro v' w2 hown' hgrow hblk
    have Ho' := q_ hown'
    have Hg := q_ hgrow
    have Hb := q_ hblk
    clear hown' hgrow hblk
    go_wp2_with fail
    go_roundw
    case rel =>
     refine ⟨k + 1, by omega, by go_num, zbt ((HX.out.trans HX1.out).alloc _ |>.alloc _) (zam Ho.out ((HX1.out.alloc _).alloc _)) Hg.out, ys0 ++ [x.can.1], _, ?_, by rw [List.length_append]; exact Ho'.out, ?_⟩
     ·rw [za8 Hx.out]; exact Val.cans_snoc He.out Hc.out
     ·exact flat_step Ho.out Hf.out HX1.out (((Ext.refl w1).alloc _).alloc _) (Nat.le_refl _) HX.out.size Hy.out Hg.out (by simpa using Hb.out)
    case measure => simp [intOf]; omega
   ·have e0 : (x.can.2 != 0) = true := by simpa using he
    have He := q_ he
    clear he
    obtain ⟨ys0, xs, hcans, _, _⟩ := Hown.out
    have hbad : Val.cans items = ([], x.can.2) := by
     have := Val.cans_bad He.out (r := items.drop (k + 1)) hcans
     rwa [zb1 Hx.out] at this
    have hr : res = (.zero, x.can.2) := by rw [hi0.out, hbad, if_pos He.out]
    have Hr := q_ hr
    clear hcans hbad hr Hown
    have hx1' : Ext w (w1.alloc (.cells #[.int .i64 k3, .bool b3, .int .i64 n3, .string t3, .string ut3, .string ui3, .slice A3 l3 c3, .slice A4 l4 c4] 46)) := ((HW.out.trans HX.out).trans HX1.out).alloc _
    have hcell : (w1.alloc (.cells #[.int .i64 k3, .bool b3, .int .i64 n3, .string t3, .string ut3, .string ui3, .slice A3 l3 c3, .slice A4 l4 c4] 46)).heap[w.heap.size + 1]? = some (.cells zeroCells.toArray 46 (0, 0)) :=
     (((HX.out.trans HX1.out).alloc _).block _ (zad HB1.out)).trans HB1.out
    have HXr := q_ hx1'
    have HCl := q_ hcell
    clear hx1' hcell
    go_wp2_with (refine zah rfl 46 _ _ rfl (w.heap.size + 1) 0 rfl zeroCells rfl zaf rfl 46 zeroCells.toArray HCl.out (by simp [zeroCells]) zco ?_)
    rw [Hr.out]
    exact bodyPost_ret (v := .tuple #[.agg zeroCells.toArray, .int .i64 x.can.2]) (zaj Tryz.results119 rfl zai zaf rfl (zao HCl.out (by simp [zeroCells]))) rfl ⟨zeroCells, rfl, Val.zero_at _ _, HXr.out.setRow (by omega) _⟩
  ·have hke : k = items.length := by omega
   subst hke
   obtain ⟨ys0, xs, hcans, hown, hflat⟩ := Hown.out
   rw [List.take_length] at hcans
   have hlen : ys0.length = items.length := by
    have h1 := Val.cans_length (l := items) (by rw [hcans])
    rw [hcans] at h1
    exact h1
   obtain ⟨A5, cap5, rfl⟩ := zax hown
   rw [hlen] at hown ⊢
   have Hc := q_ hcans
   have Ho := q_ hown
   rw [hlen] at hflat
   have Hf := q_ hflat
   have Hle := q_ hlen
   obtain ⟨hc5, hc5', h5⟩ := own_src hown
   rw [zab] at hc5'
   have H5 := q_ h5
   clear hcans hown hflat Hown hlen h5 HL
   by_cases hlg : 4096 < items.length
   ·have hr : res = (.zero, 12) := by rw [hi0.out, Hc.out]; simp [hlg]
    have Hr := q_ hr
    have t0 : decide ((4096 : Int) < items.length) = true := by simp; omega
    clear hr hlg
    have hcell : wr.heap[w.heap.size + 1]? = some (.cells zeroCells.toArray 46 (0, 0)) := (HX.out.block _ (zad HB1.out)).trans HB1.out
    have HCl := q_ hcell
    clear hcell
    go_wp2_with (refine zah rfl 46 _ _ rfl (w.heap.size + 1) 0 rfl zeroCells rfl zaf rfl 46 zeroCells.toArray HCl.out (by simp [zeroCells]) zco ?_)
    rw [Hr.out]
    exact bodyPost_ret (v := .tuple #[.agg zeroCells.toArray, .int .i64 12]) (zaj Tryz.results119 rfl zai zaf rfl (zao HCl.out (by simp [zeroCells]))) rfl ⟨zeroCells, rfl, Val.zero_at _ _, (HW.out.trans HX.out).setRow (by omega) _⟩
   ·have hr : res = (.mk 5 false 0 empty empty empty (sortU Val.ord ys0) [], 0) := by rw [hi0.out, Hc.out]; simp [hlg]
    have Hr := q_ hr
    have t0 : decide ((4096 : Int) < items.length) = false := by simp; omega
    have hl4 : items.length ≤ 4096 := by omega
    clear hr hlg
    have hcO : wr.heap[w.heap.size + 2]? = some (.cells #[.int .i64 5, .bool false, .int .i64 0, .string ByteArray.empty, .string ByteArray.empty, .string ByteArray.empty, .slice none 0 0, .slice none 0 0] 46 (0, 0)) := (HX.out.block _ (zad HB2.out)).trans HB2.out
    have HcO := q_ hcO
    have HB1r := q_ ((HX.out.block _ (zad HB1.out)).trans HB1.out)
    have Hlt3 : Hid (w.heap.size + 3 ≤ wr.heap.size) := q_ (by have := HX.out.size; have := HS0.out; omega)
    clear hcO
    go_wp2_with fail
    clear t0
    rename World => v1
    obtain ⟨S5, hS5⟩ : ∃ S5, S5 = Made W0.heap.size v1 (.slice A5 items.length cap5) := ⟨_, rfl⟩
    have HS5 : Hid (∀ b, S5 b → W0.heap.size ≤ b ∧ b < v1.heap.size) := q_ fun b hb => by rw [hS5] at hb; exact ⟨hb.1, hb.2.1⟩
    have Hf5 : Hid (Flat S5 v1 ys0 xs) := q_ (by rw [hS5]; exact Hf.out)
    clear hS5
    go_loopw [9] (fun z wr => ∃ k : Nat, k ≤ items.length ∧ z = .int .i64 k ∧ Hid (Ins S5 v1 (w.heap.size + 2) 5 (sortU Val.ord (ys0.take k)) [] wr)) (fun z _ => items.length - (intOf z).toNat)
    case atStart => exact ⟨0, Nat.zero_le _, rfl, GrownBy.of_ext _ (Ext.refl _), .slice none 0 0, .slice none 0 0, [], HcO.out, World.ownsRow_nil _ _ _ _, World.ownsRow_nil _ _ _ _, rfl⟩
    case round =>
     obtain ⟨k, hk, rfl, HM⟩ := hrel
     by_cases hlt : k < items.length
     ·obtain ⟨y, hy⟩ : ∃ y, ys0[k]? = some y := ⟨_, List.getElem?_eq_getElem (by rw [Hle.out]; exact hlt)⟩
      obtain ⟨I, N, xsO, hO, hI, hN, hfO⟩ := HM.out.rows
      obtain ⟨AI, capI, rfl⟩ := zax hI
      obtain ⟨hcI, hcI', hI5⟩ := own_src hI
      rw [zab] at hcI'
      have hLk : (sortU Val.ord (ys0.take k)).length ≤ k := Nat.le_trans (zci _) (by rw [List.length_take]; omega)
      have hst := za3 Val.goodAt (ys0.take k)
      have hins := zdh (c := Val.ord) hy
      obtain ⟨g5, rfl, hg5, hg5', hc5x⟩ := H5.out (by omega)
      obtain ⟨cy, hcy, hya, hyx⟩ := Hf5.out.get hy
      have hal : Alike S5 v1 wr := fun b hb => HM.out.grown.block b (HS5.out b hb).2 (fun e => by injection e with e; have := (HS5.out b hb).1; have := HS0.out; omega)
      have hg5n : some g5 ≠ some (w.heap.size + 2) := fun e => by injection e with e; have := HS0.out; omega
      have hcyx : CellsAt wr g5 (k * 8) cy := by
       have h1 := CellsAt.part (k := k * 8) hc5x hyx
       rw [Nat.zero_add] at h1
       exact fun j v hj => (World.cell?_of_block (a := ⟨g5, k * 8 + j, none⟩) (HM.out.grown.block g5 hg5' hg5n)).trans (h1 j v hj)
      obtain ⟨yk, yb, yn, yt, yut, yui, yA, yl, yc, yA2, yl2, yc2, rfl⟩ := hya.shape
      have Hya := q_ (hya.alike hal)
      have Hcy := q_ hcyx
      have Hg5 : Hid (g5 < wr.heap.size) := q_ (Nat.lt_of_lt_of_le hg5' HM.out.grown.size)
      have HSr : Hid (∀ b, S5 b → b < wr.heap.size) := q_ fun b hb => Nat.lt_of_lt_of_le (HS5.out b hb).2 HM.out.grown.size
      have HI5 := q_ hI5
      have HI := q_ hI
      have HN := q_ hN
      have HfO := q_ hfO
      have HO := q_ hO
      have Hy := q_ hy
      have hB0 := (HM.out.grown.block _ (zad HB0r.out) (by simp)).trans HB0r.out
      have HB0' := q_ hB0
      have o6 : wr.cell? ⟨w.heap.size + 2, 6, none⟩ = some (.slice AI (sortU Val.ord (ys0.take k)).length capI) := by rw [cell_of_row _ _ _ _ _ _ hO]; rfl
      clear hI5 hI hN hfO hO hy hB0 hg5 hg5' hc5x hcy hya hyx hal hg5n hcyx
      generalize hLd : sortU Val.ord (ys0.take k) = L at *
      have HLd := q_ hLd
      have Hst := q_ hst
      have Hins := q_ hins
      clear hLd hst hins
      go_wp2_with fail
      clear o6
      rename World => v2
      go_loopw [10, 11] (fun az tz wr => ∃ (p : Nat) (tb : Bool), p ≤ L.length ∧ az = .int .i64 p ∧ tz = .bool tb ∧ Ext v2 wr ∧ Hid (Behind Val.ord y L p tb)) (fun az _ _ => (intOf az).toNat)
      case atStart => exact ⟨L.length, false, Nat.le_refl _, rfl, rfl, Ext.refl _, Behind.start⟩
      case round =>
       obtain ⟨p, tb, hp, rfl, rfl, hext, HBh⟩ := hrel
       have HX2 := q_ hext
       have hO := (hext.block _ (zad HO.out)).trans HO.out
       have hB0 := (hext.block _ (zad HB0'.out)).trans HB0'.out
       have o6 : wr.cell? ⟨w.heap.size + 2, 6, none⟩ = some (.slice AI L.length capI) := by rw [cell_of_row _ _ _ _ _ _ hO]; rfl
       have c0 : wr.cell? ⟨w.heap.size, 0, none⟩ = some (.int .i64 5) := by rw [cell_of_row _ _ _ _ _ _ hB0]; rfl
       clear hext hO hB0
       by_cases hp0 : p = 0
       case' pos =>
        have hfd := HBh.out.found Val.goodAt Hst.out hp (.inl hp0)
        have HXx := q_ HX2.out
        have t0 : decide (0 < (p : Int)) = false := by simp; omega
        have t0' : decide (0 < p) = false := by simp; omega
        clear c0 o6 HX2 hp0
        rename World => wx
       case' neg =>
        obtain ⟨z, hz⟩ : ∃ z, L[p - 1]? = some z := ⟨_, List.getElem?_eq_getElem (by omega)⟩
        obtain ⟨gI, hAI, hgI, hgI', hcI0⟩ := HI5.out (by omega)
        obtain ⟨cz, hcz, hza, hzx⟩ := HfO.out.get hz
        have hczx : CellsAt wr gI ((p - 1) * 8) cz := by
         have h1 := CellsAt.part (k := (p - 1) * 8) hcI0 hzx
         rw [Nat.zero_add] at h1
         exact h1.alike (S := fun b => b < v2.heap.size) hgI' (Alike.of_ext HX2.out fun _ h => h)
        obtain ⟨zk, zb, zn, zt, zut, zui, zA, zl, zc, zA2, zl2, zc2, rfl⟩ := hza.shape
        have Hza := q_ hza
        have hcy' := Hcy.out.alike (S := fun b => b < v2.heap.size) Hg5.out (Alike.of_ext HX2.out fun _ h => h)
        obtain ⟨ov, hov⟩ : ∃ ov, ov = z.ord y := ⟨_, rfl⟩
        have hov3 := (Val.goodAt z).range y
        rw [← hov] at hov3
        have Hq : Hid (∀ w3, Ext wr w3 → Calls Tryz.prog 139 #[.agg #[.int .i64 zk, .bool zb, .int .i64 zn, .string zt, .string zut, .string zui, .slice zA zl zc, .slice zA2 zl2 zc2], .agg #[.int .i64 yk, .bool yb, .int .i64 yn, .string yt, .string yut, .string yui, .slice yA yl yc, .slice yA2 yl2 yc2]] w3 fun e w' => e = .returned (.int .i64 ov) ∧ Ext w3 w') := q_ fun w3 hw3 => by
         rw [hov]
         exact orderR_ok _ z y S5 w3 [_, _, _, _, _, _, _, _] [_, _, _, _, _, _, _, _] (Nat.le_refl _) (fun b hb => Nat.lt_of_lt_of_le (HSr.out b hb) (HX2.out.trans hw3).size) (Hza.out.alike (Alike.of_ext (HX2.out.trans hw3) HSr.out)) (Hya.out.alike (Alike.of_ext (HX2.out.trans hw3) HSr.out))
        have Hov := q_ hov
        have Hz := q_ hz
        have r0 := zaa (show wr.cell? ⟨gI, (p - 1) * 8, none⟩ = _ from hczx 0 _ rfl)
        have r1 := zaa (hczx 1 _ rfl)
        have r2 := zaa (hczx 2 _ rfl)
        have r3 := zaa (hczx 3 _ rfl)
        have r4 := zaa (hczx 4 _ rfl)
        have r5 := zaa (hczx 5 _ rfl)
        have r6 := zaa (hczx 6 _ rfl)
        have r7 := zaa (hczx 7 _ rfl)
        have s0 := zaa (show wr.cell? ⟨g5, k * 8, none⟩ = _ from hcy' 0 _ rfl)
        have s1 := zaa (hcy' 1 _ rfl)
        have s2 := zaa (hcy' 2 _ rfl)
        have s3 := zaa (hcy' 3 _ rfl)
        have s4 := zaa (hcy' 4 _ rfl)
        have s5 := zaa (hcy' 5 _ rfl)
        have s6 := zaa (hcy' 6 _ rfl)
        have s7 := zaa (hcy' 7 _ rfl)
        have o6' := zaa (show wr.cell? ⟨w.heap.size + 2, 6, none⟩ = some (.slice (some ⟨gI, 0, none⟩) L.length capI) by rw [o6, hAI])
        clear o6 hAI
        clear hz hgI hgI' hcI0 hcz hza hzx hczx hcy' hov
        have t0 : decide (0 < (p : Int)) = true := by simp; omega
        go_wp2_with fail
        have q1 : IntKind.i64.wrap ((p : Int) - 1) = ((p - 1 : Nat) : Int) := by rw [show (p : Int) - 1 = ((p - 1 : Nat) : Int) by omega]; exact IntWalk.i64_in _ (by omega)
        have q2 : (0 : Int) ≤ ((p - 1 : Nat) : Int) := by omega
        have q3 : ((p - 1 : Nat) : Int) < L.length := by omega
        have q4 : p - 1 < L.length := by omega
        refine zae (by kernel_rfl) (by kernel_rfl) ?_
        repeat (quiet_step ((go_at_call 139; exact zan Hq.out _ _)))
        refine wpQuiet_nil ?_
        intro w3 hw3
        have HX3 := q_ hw3
        clear hw3 r0 r1 r2 r3 r4 r5 r6 r7 s0 s1 s2 s3 s4 s5 s6 s7 q1 q2 q3 q4 o6' Hq t0
        rcases hov3 with rfl | rfl | rfl
        rotate_left 1
        ·cases tb
         all_goals
          have hb := HBh.out.back hp0 Hz.out Hov.out (by decide)
          have Hb := q_ hb
          clear hb
          go_wp2_with fail
          go_roundw
          case rel => exact ⟨p - 1, true, by omega, by rw [show ((p - 1 : Nat) : Int) = (p : Int) - 1 by omega], rfl, HX2.out.trans HX3.out, q_ (by simpa using Hb.out)⟩
          case measure => simp [intOf]; omega
        ·have hb := HBh.out.back hp0 Hz.out Hov.out (by decide)
         have Hb := q_ hb
         clear hb
         cases tb
         ·go_wp2_with fail
          go_roundw
          case rel => exact ⟨p - 1, false, by omega, by rw [show ((p - 1 : Nat) : Int) = (p : Int) - 1 by omega], rfl, HX2.out.trans HX3.out, q_ (by simpa using Hb.out)⟩
          case measure => simp [intOf]; omega
         ·go_wp2_with fail
          go_roundw
          case rel => exact ⟨p - 1, true, by omega, by rw [show ((p - 1 : Nat) : Int) = (p : Int) - 1 by omega], rfl, HX2.out.trans HX3.out, q_ (by simpa using Hb.out)⟩
          case measure => simp [intOf]; omega
        have hfd := HBh.out.found Val.goodAt Hst.out hp (.inr ⟨z, Hz.out, Hov.out.symm⟩)
        have HXx := q_ (HX2.out.trans HX3.out)
        clear c0 HX2 HX3 hp0
        rename World => wx
       all_goals
        have hO := (HXx.out.block _ (zad HO.out)).trans HO.out
        have hB0 := (HXx.out.block _ (zad HB0'.out)).trans HB0'.out
        have o6 : wx.cell? ⟨w.heap.size + 2, 6, none⟩ = some (.slice AI L.length capI) := by rw [cell_of_row _ _ _ _ _ _ hO]; rfl
        have c0 : wx.cell? ⟨w.heap.size, 0, none⟩ = some (.int .i64 5) := by rw [cell_of_row _ _ _ _ _ _ hB0]; rfl
        have HOx := q_ hO
        have HB0x := q_ hB0
        clear hO hB0
        rcases hfd with ⟨rfl, _, hin⟩ | ⟨rfl, _, hin⟩
        ·have Hin := q_ hin
         clear hin
         go_wp2_with fail
         go_roundw
         case rel =>
          refine ⟨k + 1, by omega, by go_num, ?_⟩
          rw [Hins.out, Hin.out, ← HLd.out]
          have hm := HM.out.ext (fun b hb => (HS5.out b hb).2) HXx.out
          rw [← HLd.out] at hm
          exact q_ hm
         case measure => simp [intOf]; omega
        ·have Hin := q_ hin
         clear hin
         have hTk : (xsO.take (p * 8)).length = p * 8 := by rw [List.length_take, HfO.out.length]; omega
         have hDr : (xsO.drop (p * 8)).length = (L.length - p) * 8 := by rw [List.length_drop, HfO.out.length]; omega
         have hOne : ∀ u ∈ xsO, u.oneCell' = true := HfO.out.one
         have hS1 : SrcAt wx AI p (xsO.take (p * 8)) := fun h0 => by
          obtain ⟨gI, hAI, _, hgI', hcI0⟩ := HI5.out (by omega)
          exact ⟨gI, 0, hAI, fun j v hj => hcI0.alike (S := fun b => b < v2.heap.size) hgI' (Alike.of_ext HXx.out fun _ h => h) j v (by rw [List.getElem?_take] at hj; split at hj; exact hj; cases hj)⟩
         have HTk := q_ hTk
         have HDr := q_ hDr
         have HOne := q_ hOne
         have HS1 := q_ hS1
         clear hTk hDr hOne hS1
         go_wp2_with (first | refine zcl rfl 44 (.tmp 151) (.tmp 152) rfl 8 Tryz.elemV zer AI L.length capI p rfl rfl (by omega) ?_ | (at_builtin; refine za9 rfl (.tmp 149) (.tmp 153) 44 rfl wx.heap.size 46 i0 (.agg zeroCells.toArray) 8 120 Tryz.underlying44 hi hz0 hz1 hz2 rfl (by decide) (.slice none 0 0) 0 [] rfl (World.ownsRow_nil _ _ _ _) AI p capI (xsO.take (p * 8)) rfl HTk.out HS1.out (fun u hu => HOne.out u (List.mem_of_mem_take hu)) (by rw [zab]; omega) (by omega) (Nat.le_refl _) ?_))
         intro m1 x1 own1 grow1 blk1
         try simp only [Nat.zero_add, List.nil_append] at own1
         obtain ⟨Am1, cm1, rfl⟩ := zax own1
         have hx1 : Ext wx x1 := zbt (e := 46) (size := 8) (Ext.refl wx) (World.ownsRow_nil _ _ _ _) grow1
         have Own1 := q_ own1
         have HXa := q_ hx1
         have Hcy1 := q_ (Hcy.out.alike (S := fun b => b < v2.heap.size) Hg5.out (Alike.of_ext (HXx.out.trans hx1) fun _ h => h))
         clear own1 grow1 blk1 hx1 o6 c0
         go_wp2_with (first | refine zac rfl 46 _ rfl g5 (k * 8) rfl zai zaf rfl Hcy1.out ?_ | (at_builtin; refine za1 rfl (.tmp 155) (.tmp 160) 44 rfl wx.heap.size 46 i0 (.agg zeroCells.toArray) 8 120 Tryz.underlying44 hi hz0 hz1 hz2 rfl (by decide) _ p (xsO.take (p * 8)) rfl (zam Own1.out ((Ext.refl _).alloc _)) x1.heap.size 0 1 1 [.int .i64 yk, .bool yb, .int .i64 yn, .string yt, .string yut, .string yui, .slice yA yl yc, .slice yA2 yl2 yc2] rfl rfl (zap _ _ (by simp)) Hya.out.one (by rw [zab]; omega) (by omega) (HXa.out.alloc _).size ?_))
         intro m2 x2 own2 grow2 blk2
         obtain ⟨Am2, cm2, rfl⟩ := zax own2
         have hx2 : Ext wx x2 := zbt (HXa.out.alloc _) (zam Own1.out ((Ext.refl _).alloc _)) grow2
         have o6 : x2.cell? ⟨w.heap.size + 2, 6, none⟩ = some (.slice AI L.length capI) := by rw [cell_of_row _ _ _ _ _ _ ((hx2.block _ (zad HOx.out)).trans HOx.out)]; rfl
         have Own2 := q_ own2
         have HXb := q_ hx2
         clear own2 grow2 blk2 hx2
         go_wp2_with (refine zb2 rfl 44 (.tmp 164) (.tmp 165) rfl 8 Tryz.elemV zer AI L.length capI p rfl rfl (by omega) ?_)
         intro A2' hA2
         have hS2 : SrcAt x2 A2' (L.length - p) (xsO.drop (p * 8)) := fun h0 => by
          obtain ⟨gI, hAI, _, hgI', hcI0⟩ := HI5.out (by omega)
          exact ⟨gI, 0 + p * 8, hA2 gI 0 hcI (by omega) hAI, (hcI0.alike (S := fun b => b < v2.heap.size) hgI' (Alike.of_ext (HXx.out.trans HXb.out) fun _ h => h)).part fun j v hj => by rw [List.getElem?_drop] at hj; exact hj⟩
         have HS2 := q_ hS2
         clear hS2 hA2 o6
         go_wp2_with (at_builtin; go_loud (refine za9 rfl (.tmp 162) (.tmp 166) 44 rfl wx.heap.size 46 i0 (.agg zeroCells.toArray) 8 120 Tryz.underlying44 hi hz0 hz1 hz2 rfl (by decide) (.slice Am2 (p + 1) cm2) (p + 1) (xsO.take (p * 8) ++ [.int .i64 yk, .bool yb, .int .i64 yn, .string yt, .string yut, .string yui, .slice yA yl yc, .slice yA2 yl2 yc2]) rfl Own2.out A2' (L.length - p) (capI - p) (xsO.drop (p * 8)) rfl HDr.out HS2.out (fun u hu => HOne.out u (List.mem_of_mem_drop hu)) (by rw [zab]; omega) (by omega) HXb.out.size ?_))
         intro m3 x3 own3 grow3 blk3
         obtain ⟨Am3, cm3, rfl⟩ := zax own3
         have hx3 : Ext wx x3 := zbt HXb.out Own2.out grow3
         have hO3 := (hx3.block _ (zad HOx.out)).trans HOx.out
         have o6 : x3.cell? ⟨w.heap.size + 2, 6, none⟩ = some (.slice AI L.length capI) := by rw [cell_of_row _ _ _ _ _ _ hO3]; rfl
         have f6 : x3.frozen? ⟨w.heap.size + 2, 6, none⟩ = false := frozen_of_row _ _ _ _ _ hO3
         have c0 : x3.cell? ⟨w.heap.size, 0, none⟩ = some (.int .i64 5) := by rw [cell_of_row _ _ _ _ _ _ ((hx3.block _ (zad HB0x.out)).trans HB0x.out)]; rfl
         have Own3 := q_ own3
         have HXc := q_ hx3
         clear own3 grow3 blk3 hx3 hO3
         go_wp2_with fail
         go_roundw
         case rel =>
          refine ⟨k + 1, by omega, by go_num, q_ (Ins.items HM.out.grown HXx.out HXc.out HO.out (by have := Hlt3.out; omega) Own3.out HN.out HfO.out (fun b hb => ⟨(HS5.out b hb).2, fun e => by have := (HS5.out b hb).1; have := HS0.out; omega⟩) Hya.out hp ?_ (by simp) (by rw [Hins.out, Hin.out]))⟩
          rw [Hins.out, Hin.out]; simp; omega
         case measure => simp [intOf]; omega
     ·have hke : k = items.length := by omega
      subst hke
      have hm := HM.out
      rw [List.take_of_length_le (by rw [Hle.out]; exact Nat.le_refl _)] at hm
      obtain ⟨I, N, hO, hat⟩ := hm.fin (S' := fun b => Fresh w.heap.size wr b ∧ b ≠ w.heap.size + 1) ⟨by omega, by omega⟩ (by have := zci (c := Val.ord) ys0; have := Hle.out; rw [zak]; omega) (by simp [zak]) (by simp) (fun b hb => ⟨⟨by have := (HS5.out b hb).1; have := HS0.out; omega, Nat.lt_of_lt_of_le (HS5.out b hb).2 hm.grown.size⟩, by have := (HS5.out b hb).1; have := HS0.out; omega⟩)
       (fun b h1 h2 => ⟨⟨by have := Hlt3.out; omega, h2⟩, by have := Hlt3.out; omega⟩)
      have hcell := (hm.grown.block _ (zad HB1r.out) (by simp)).trans HB1r.out
      have hext : Ext w wr := by
       refine ⟨(HW.out.trans HX.out).toBelow.trans ⟨hm.grown.os, hm.grown.tape, hm.grown.output, ?_, fun b hb => ?_⟩, Nat.le_trans (HW.out.trans HX.out).drawn hm.grown.drawn⟩
       ·exact hm.grown.size
       ·exact hm.grown.block b (Nat.lt_of_lt_of_le hb (HW.out.trans HX.out).size) (fun e => by injection e with e; omega)
      have HA := q_ hat
      have HO := q_ hO
      have HCl := q_ hcell
      have HXf := q_ hext
      have hone := hat.one
      have HOne := q_ hone
      clear hm hat hO hcell hext hone
      go_wp2_with (first | refine zac rfl 46 _ rfl (w.heap.size + 2) 0 rfl zai zaf rfl (fun j v hj => by rw [cell_of_row _ _ _ _ _ _ HO.out, Nat.zero_add]; simpa using hj) ?_ | refine zah rfl 46 _ _ rfl (w.heap.size + 1) 0 rfl [.int .i64 5, .bool false, .int .i64 0, .string ByteArray.empty, .string ByteArray.empty, .string ByteArray.empty, I, N] rfl zaf rfl 46 zeroCells.toArray HCl.out (by simp [zeroCells]) HOne.out ?_)
      rw [Hr.out]
      refine bodyPost_ret (v := .tuple #[.agg #[.int .i64 5, .bool false, .int .i64 0, .string ByteArray.empty, .string ByteArray.empty, .string ByteArray.empty, I, N], .int .i64 0]) (zaj Tryz.results119 rfl zai zaf rfl (zao HCl.out (by simp [zeroCells]))) rfl ⟨[.int .i64 5, .bool false, .int .i64 0, .string ByteArray.empty, .string ByteArray.empty, .string ByteArray.empty, I, N], rfl, ?_, HXf.out.setRow (by omega) _⟩
      refine (HA.out.alike (w' := wr.setRow (w.heap.size + 1) _) fun b hb => (GrownBy.setRow wr (w.heap.size + 1) _).block b hb.1.2 (fun e => by injection e with e; exact hb.2 e)).mono fun b hb => ?_
      exact ⟨hb.1.1, by simpa [World.setRow] using hb.1.2⟩
end Go.Proofs.YtbkaffhbhimglaaGreat
