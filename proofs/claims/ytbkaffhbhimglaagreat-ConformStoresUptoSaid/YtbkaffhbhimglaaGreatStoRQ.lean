/-
  Whether entities conform to a schema: the reference's Store answers what the program's does. The conditions: all lies in memory as it should, and is of modest size.
-/
import Derived.Test.YtbkaffhbhimglaaGreatStoPQ
import Derived.Test.YtbkaffhbhimglaaGreatActRQ
import Derived.Test.YtbkaffhbhimglaaGreatGd
import Derived.Test.YtbkaffhbhimglaaGreatConRQ
import Derived.Test.YtbkaffhbhimglaaGreatRefTQ
import Derived.Test.YtbkaffhbhimglaaGreatGj
import Derived.Test.YtbkaffhbhimglaaGreatLeadQ
namespace Go.Proofs.YtbkaffhbhimglaaGreat
open Go.RowKit
open Lib renaming hid → q_
set_option maxRecDepth 100000
set_option maxHeartbeats 8000000
noncomputable def actR (acts : List Ent) (x : Ent) : Bool := match idx (acts.map Ent.uid) x.uid with
 | none => false
 | some j => match acts[j]? with
  | none => false
  | some a => eqB x.av a.av && decide (x.ps = a.ps)
theorem rec_none {v : Val} (h : v.Is) (hk : v.kind = 6) : v = recV ↔ v.names.length = 0 := by
 constructor
 ·intro e; subst e; rfl
 ·intro hn
  have hle := (is_rec h hk).1
  obtain ⟨k, bo, n, t, ut, ui, items, names⟩ := v
  obtain rfl : k = 6 := hk
  unfold Val.Is at h
  rcases h with h | h | h | h | h | h
  ·exact absurd h.1 (by decide)
  ·exact absurd h.1 (by decide)
  ·exact absurd h.1 (by decide)
  ·exact absurd h.1 (by decide)
  ·exact absurd h.1 (by decide)
  ·obtain ⟨_, rfl, rfl, rfl, rfl, rfl, hl, _⟩ := h
   obtain rfl : names = [] := List.eq_nil_of_length_eq_zero hn
   obtain rfl : items = [] := List.eq_nil_of_length_eq_zero (by simpa using hl.symm)
   rfl
theorem uid_one {l : List Ent} (hn : (l.map Ent.uid).Nodup) {x y : Ent} (hx : x ∈ l) (hy : y ∈ l) (h : x.uid = y.uid) : x = y := by
 obtain ⟨i, hi⟩ := List.mem_iff_getElem?.1 hx
 obtain ⟨j, hj⟩ := List.mem_iff_getElem?.1 hy
 have h1 := (List.getElem?_eq_some_iff.1 hi)
 have h2 := (List.getElem?_eq_some_iff.1 hj)
 obtain ⟨l1, e1⟩ := h1
 obtain ⟨l2, e2⟩ := h2
 have he := nodup_at hn l1 l2 (by rw [e1, e2]; exact h)
 subst he
 rw [← e1, ← e2]
theorem actR_same {acts : List Ent} {x : Ent} (hn : (acts.map Ent.uid).Nodup) (hv : ∀ a ∈ acts, a.av = recV) (hx : x.av.Is ∧ x.av.kind = 6) : acts.any (sameE x) = actR acts x := by
 unfold actR
 cases hi : idx (acts.map Ent.uid) x.uid with
 | none =>
  rw [List.any_eq_false]
  intro a ha hs
  simp only [sameE, Bool.and_eq_true, decide_eq_true_eq] at hs
  exact idx_none.1 hi (List.mem_map.2 ⟨a, ha, hs.1⟩)
 | some j =>
  have hg := zet hi
  rw [List.getElem?_map] at hg
  cases ha : acts[j]? with
  | none => rw [ha] at hg; cases hg
  | some a =>
   rw [ha] at hg
   have hu : a.uid = x.uid := by simpa using hg
   have hm := List.mem_of_getElem? ha
   simp only [ha]
   rw [hv a hm, Bool.eq_iff_iff]
   simp only [List.any_eq_true, sameE, Bool.and_eq_true, decide_eq_true_eq, eqB_true, rec_none hx.1 hx.2]
   constructor
   ·rintro ⟨b, hb, h1, h2, h3⟩
    obtain rfl : b = a := uid_one hn hb hm (h1.trans hu.symm)
    exact ⟨h3, h2.symm⟩
   ·rintro ⟨h1, h2⟩
    exact ⟨a, hm, hu, h2.symm, h1⟩
theorem acts_plain {l : List ActT} : ∀ a ∈ (zar (zaz l)).1, a.av = recV := fun a ha => by
 by_cases h : Good (zaz l)
 ·obtain ⟨e, he, rfl⟩ := (canonE_mem h a).1 ha
  obtain ⟨b, _, rfl⟩ := List.mem_map.1 he
  rfl
 ·rw [canonE_bad h] at ha; cases ha
theorem canonE_nodup (l : List Ent) : ((zar l).1.map Ent.uid).Nodup := by
 by_cases h : Good l
 ·exact (canonE_names h).nodup_iff.2 h.names
 ·rw [canonE_bad h]; exact List.nodup_nil
theorem found_most {s : Sch} {c acts : List Ent} (hn : (c.map Ent.uid).Nodup) (h : c.all (okE s acts) = true) : zbz c ≤ acts.length := by
 unfold zbz
 have h1 : ((c.filter fun x => decide (x.uid.1 = tAct)).map Ent.uid).Nodup := List.Nodup.sublist ((List.filter_sublist).map _) hn
 have h2 := za6 (m := acts.map Ent.uid) h1 fun u hu => by
  obtain ⟨x, hx, rfl⟩ := List.mem_map.1 hu
  obtain ⟨hx, ht⟩ := List.mem_filter.1 hx
  have hk := List.all_eq_true.1 h x hx
  unfold okE at hk
  rw [if_pos (of_decide_eq_true ht)] at hk
  obtain ⟨a, ha, hs⟩ := List.any_eq_true.1 hk
  simp only [sameE, Bool.and_eq_true, decide_eq_true_eq] at hs
  exact List.mem_map.2 ⟨a, ha, hs.1⟩
 simpa using h2
theorem takes_rec {v : Val} {l : List Atr} (hk : v.kind = 6) : Ty.takes (.mk 8 ByteArray.empty [] l) v = recB l v.items v.names := by
 obtain ⟨k, bo, n, t, ut, ui, items, names⟩ := v
 obtain rfl : k = 6 := hk
 unfold Ty.takes recB
 simp [Val.items, Val.names]
theorem row_cut {α : Type} {R : Rep α} {S : Nat → Prop} {w : World} {l : List α} {b o n c k : Nat} {x : α} (h : R.RowsAt S w l (.slice (some ⟨b, o, none⟩) n c)) (hx : l[k]? = some x) : R.RowsAt S w [x] (.slice (some ⟨b, o + k * R.size, none⟩) 1 (c - k)) := by
 have hk := (List.getElem?_eq_some_iff.1 hx).1
 obtain ⟨A, cap, e, ⟨h1, h2, h3⟩, hr⟩ := h
 injection e with e1 e2 e3
 subst e1 e2 e3
 obtain ⟨b', o', e, hb, hrow⟩ := hr (by omega)
 cases e
 refine ⟨_, c - k, rfl, ⟨by simp [zak], by simp; omega, by omega⟩, fun _ => ⟨b, _, rfl, hb, fun i y hi => ?_⟩⟩
 match i, hi with
 | 0, hi =>
  cases hi
  obtain ⟨cs, h4, h5⟩ := hrow k x hx
  exact ⟨cs, by simpa using h4, h5⟩
theorem uid_front {x y : ByteArray} {r : List Value} {j : Nat} {v : Value} (h : ([.string x, .string y] : List Value)[j]? = some v) : (.string x :: .string y :: r)[j]? = some v := by
 match j, h with
 | 0, h => exact h
 | 1, h => exact h
theorem storeR_ok (S : Nat → Prop) (s : Sch) (ss : List Value) (l : List Ent) (v : Value) (w : World) (hS : ∀ b, S b → b < w.heap.size) (hs : Sch.At S w s ss) (hl : entR.RowsAt S w l v) (h20 : l.length ≤ 1000) (hps : ∀ e ∈ l, e.ps.length ≤ 1000) (hdep : ∀ e ∈ l, e.av.dep ≤ 1000000)
  (ha20 : s.acts.length ≤ 1000) (hap : ∀ a ∈ s.acts, a.ins.length ≤ 1000) (hty : ∀ t ∈ s.types, (Ty.mk 8 ByteArray.empty [] t.attrs).ones = true) :
  Calls Tryz.prog 10 #[.agg ss.toArray, v] w fun e w' => e = .returned (.int .i64 (zdp s l)) ∧ Ext w w' := by
 have HSs := q_ hs
 have HL := q_ hl
 obtain ⟨_, _, rfl, ⟨SA, sc, rfl, ⟨_, _, hsm⟩, hsr⟩, ⟨SB, sd, rfl, _⟩⟩ := hs
 rw [zab] at hsm
 have HSr := q_ hsr
 obtain ⟨LA, lc, rfl, _⟩ := hl
 have HS := q_ hS
 have HP := q_ hps
 have HDp := q_ hdep
 have HTy := q_ hty
 have HAp : Hid ((∀ e ∈ zaz s.acts, e.ps.length ≤ 1000) ∧ ∀ e ∈ zaz s.acts, e.av.dep ≤ 1000000) := q_ (by
  constructor <;> intro e he <;> obtain ⟨a, ha, rfl⟩ := List.mem_map.1 he
  ·show (upA a.ins).length ≤ _
   simp [upA]; exact hap a ha
  ·show recV.dep ≤ _
   decide)
 have HAl := q_ (show (zaz s.acts).length ≤ 1000 by simpa [zaz] using ha20)
 obtain ⟨ans, hans⟩ : ∃ ans, zdp s l = ans := ⟨_, rfl⟩
 rw [hans]
 have HAns := q_ hans
 have hx0 := (Ext.refl w).alloc (.cells #[.slice SA s.types.length sc, .slice SB s.acts.length sd] 25)
 have HX0 := q_ hx0
 clear hS hps hdep hap hans hx0 hty hsr
 go_enter Tryz.func10, Tryz.ntmps10
 go_wp2_with fail
 refine (canon5_ok S l _ _ (fun b hb => Nat.lt_of_lt_of_le (HS.out b hb) HX0.out.size) (HL.out.alike (Alike.of_ext HX0.out HS.out)) h20 HP.out HDp.out).mono ?_
 rintro e w1 ⟨cv, rfl, hcr, hx1⟩
 have HX1 := q_ (HX0.out.trans hx1)
 have HB1 : Hid (w1.heap[w.heap.size]? = some (.cells #[.slice SA s.types.length sc, .slice SB s.acts.length sd] 25 (0, 0))) := q_ ((hx1.block _ (by simp)).trans (heap_alloc_new _ _))
 have hcl := zej l
 have HCr := q_ hcr
 obtain ⟨Ac, cc, rfl, ⟨_, hc1, hc2⟩, _⟩ := hcr
 rw [zab] at hc2
 clear hx1
 by_cases he : (zar l).2 = 0
 case neg =>
  obtain ⟨er, her⟩ : ∃ er, (zar l).2 = er := ⟨_, rfl⟩
  rw [her] at he ⊢
  have HN : Hid (ans = er) := q_ (by rw [← HAns.out]; unfold zdp; rw [her, if_pos he])
  have e0 : (er != 0) = true := by simpa using he
  clear he her
  go_wp2_with fail
  go_ret
  exact ⟨zag HN.out.symm, HX1.out⟩
 have HE := q_ he
 have HA1 : Hid (ans = if (zar l).1.all (okE s (zar (zaz s.acts)).1) then (if zbz (zar l).1 < (zar (zaz s.acts)).1.length then 41 else 0) else 41) := q_ (by rw [← HAns.out]; unfold zdp; rw [he, if_neg (by simp)])
 have hrec : ∀ x ∈ (zar l).1, x.av.Is ∧ x.av.kind = 6 := fun x hx => canonE_rec he hx
 have hnd := canonE_nodup l
 rw [he]
 generalize (zar l).1 = c at *
 have HRec := q_ hrec
 have HNd := q_ hnd
 clear he hrec HE HAns hnd
 go_wp2_with (first | refine zac rfl 25 _ rfl w.heap.size 0 rfl zck zb5 (cs := [.slice SA s.types.length sc, .slice SB s.acts.length sd]) rfl (zat HB1.out) ?_)
 refine (actionsR_ok S s [_, _] w1 (fun b hb => Nat.lt_of_lt_of_le (HS.out b hb) HX1.out.size) (HSs.out.alike (Alike.of_ext HX1.out HS.out))).mono ?_
 rintro e w2 ⟨av, rfl, hao, hx2⟩
 have HX2 := q_ (HX1.out.trans hx2)
 have HB2 := q_ ((hx2.block _ (zad HB1.out)).trans HB1.out)
 have HC2 := q_ ((HCr.out.alike (Alike.of_ext hx2 fun _ h => h)).mono fun b hb => Nat.lt_of_lt_of_le hb hx2.size)
 have har := hao.rows (by have := HAl.out; rw [zak]; omega)
 have HAr := q_ har
 obtain ⟨A1, c1, rfl, _⟩ := har
 clear hao hx2
 go_wp2_with fail
 refine (canon5_ok _ (zaz s.acts) _ w2 (fun _ h => h) HAr.out HAl.out HAp.out.1 HAp.out.2).mono ?_
 rintro e w3 ⟨bv, rfl, hbr, hx3⟩
 have HX3 := q_ (HX2.out.trans hx3)
 have HB3 := q_ ((hx3.block _ (zad HB2.out)).trans HB2.out)
 have HC3 := q_ ((HC2.out.alike (Alike.of_ext hx3 fun _ h => h)).mono fun b hb => Nat.lt_of_lt_of_le hb hx3.size)
 have hal := zej (zaz s.acts)
 have hbl : (zar (zaz s.acts)).1.length ≤ 1000 := Nat.le_trans hal HAl.out
 have HPl := q_ (acts_plain (l := s.acts))
 have HNa := q_ (canonE_nodup (zaz s.acts))
 generalize (zar (zaz s.acts)).2 = er2
 generalize (zar (zaz s.acts)).1 = acts at *
 have HBr := q_ hbr
 obtain ⟨Ab, bc, rfl, ⟨_, hb1, hb2⟩, _⟩ := hbr
 rw [zab] at hb2
 clear hx3 hal HCr HC2 HAr HB1 HB2
 go_wp2_with fail
 go_loopw [9, 10] (fun f' i' wr => ∃ k : Nat, k ≤ c.length ∧ i' = .int .i64 k ∧ f' = .int .i64 (zbz (c.take k)) ∧ Hid (Ext w3 wr) ∧ Hid (∀ i x, i < k → c[i]? = some x → okE s acts x = true)) (fun _ i' _ => c.length - (intOf i').toNat)
 case atStart => exact ⟨0, Nat.zero_le _, rfl, rfl, q_ (Ext.refl _), q_ fun _ _ h => by omega⟩
 case round =>
  obtain ⟨k, hk, rfl, rfl, HX, HA⟩ := hrel
  have hfk := foundN_le (c.take k)
  have hfk' : zbz (c.take k) ≤ 1048576 := by
   have : (c.take k).length ≤ c.length := by rw [List.length_take]; omega
   omega
  by_cases hlt : k < c.length
  ·obtain ⟨x, hx⟩ : ∃ x, c[k]? = some x := ⟨_, List.getElem?_eq_getElem hlt⟩
   obtain ⟨cb, co, eA, hcb, hcrow⟩ := rows_at HC3.out (by omega)
   subst eA
   obtain ⟨cx, hcx, hxa⟩ := hcrow k x hx
   have hcx : CellsAt w3 cb (co + k * 11) cx := hcx
   have hcx := hcx.alike (S := fun b => b < w3.heap.size) hcb (Alike.of_ext HX.out fun _ h => h)
   have hxa := entR.mono (entR.alike hxa (Alike.of_ext HX.out fun _ h => h)) (fun b hb => Nat.lt_of_lt_of_le hb HX.out.size)
   obtain ⟨P, pl, pc, xk, xb, xn, xt, xut, xui, A5, l5, c5, A6, l6, c6, rfl⟩ := zdj hxa
   obtain ⟨_, _, e, hxu, hpr, hav⟩ := hxa
   cases e
   have HCx := q_ hcx
   have HFu := q_ hxu
   have HPr := q_ hpr
   have HAv := q_ hav
   have Hx := q_ hx
   have HFn := q_ (foundN_next hx)
   have HBr' := q_ ((HBr.out.alike (Alike.of_ext HX.out fun _ h => h)).mono fun b hb => Nat.lt_of_lt_of_le hb HX.out.size)
   have HCr' := q_ ((HC3.out.alike (Alike.of_ext HX.out fun _ h => h)).mono fun b hb => Nat.lt_of_lt_of_le hb HX.out.size)
   have HBx := q_ ((HX.out.block _ (zad HB3.out)).trans HB3.out)
   have c0 : wr.cell? ⟨cb, co + k * 11, none⟩ = some (.string x.uid.1) := hcx 0 _ rfl
   clear hcx hx hcrow hcb hfk hxu hpr hav
   by_cases hac : x.uid.1.toList = [65, 99, 116, 105, 111, 110]
   ·have ht : x.uid.1 = tAct := tAct_of hac
    have e1 : (x.uid.1.toList == [65, 99, 116, 105, 111, 110]) = true := by simpa using hac
    have HTt := q_ ht
    have HOk0 : Hid (okE s acts x = actR acts x) := q_ (by unfold okE; rw [if_pos ht]; exact actR_same HNa.out HPl.out (HRec.out x (List.mem_of_getElem? Hx.out)))
    clear ht hac
    go_wp2_with (first | (refine zac rfl 43 _ rfl cb (co + k * 11) rfl zb8 zbk (cs := [.string x.uid.1, .string x.uid.2]) rfl (fun j v hj => HCx.out j v (uid_front hj)) ?_))
    refine (find5_ok (fun b => b < wr.heap.size) acts (.slice Ab acts.length bc) x.uid wr (fun _ h => h) HBr'.out).mono ?_
    rintro e w5 ⟨rfl, hx5⟩
    have HX5 := q_ (HX.out.trans hx5)
    have Hx5 := q_ hx5
    clear hx5
    cases hi : idx (acts.map Ent.uid) x.uid with
    | none =>
     have HOk : Hid (okE s acts x = false) := q_ (by rw [HOk0.out]; unfold actR; rw [hi])
     rw [findI_none hi]
     clear hi
     go_wp2_with fail
     go_ret
     exact ⟨zag (by rw [HA1.out, if_neg (by rw [zeq Hx.out HOk.out]; simp)]), HX3.out.trans HX5.out⟩
    | some j =>
     have hg := zet hi
     rw [List.getElem?_map] at hg
     obtain ⟨a, ha⟩ : ∃ a, acts[j]? = some a := by
      cases h : acts[j]? with
      | none => rw [h] at hg; cases hg
      | some a => exact ⟨a, rfl⟩
     rw [ha] at hg
     have hu : x.uid = a.uid := by simpa using hg.symm
     have hjl := (List.getElem?_eq_some_iff.1 ha).1
     have HOk1 : Hid (okE s acts x = (eqB x.av a.av && decide (x.ps = a.ps))) := q_ (by rw [HOk0.out]; unfold actR; simp only [hi, ha])
     obtain ⟨qb, hqb⟩ : ∃ qb, (eqB x.av a.av && decide (x.ps = a.ps)) = qb := ⟨_, rfl⟩
     rw [hqb] at HOk1
     obtain ⟨ab, ao, eA, _, _⟩ := rows_at HBr.out (by omega)
     subst eA
     have KW : Hid (∀ X, Ext w5 X → Calls Tryz.prog 11 #[.slice (some ⟨cb, co + k * 11, none⟩) 1 (cc - k), .slice (some ⟨ab, ao + j * 11, none⟩) 1 (bc - j)] X fun e w' => e = .returned (.bool qb) ∧ Ext X w') := q_ fun X hX => by
      have h := wholeO_ok (fun b => b < wr.heap.size) x a (.slice (some ⟨cb, co + k * 11, none⟩) 1 (cc - k)) (.slice (some ⟨ab, ao + j * 11, none⟩) 1 (bc - j)) X (fun b hb => Nat.lt_of_lt_of_le hb (Hx5.out.trans hX).size) ((row_cut HCr'.out Hx.out).alike (Alike.of_ext (Hx5.out.trans hX) fun _ h => h)) ((row_cut HBr'.out ha).alike (Alike.of_ext (Hx5.out.trans hX) fun _ h => h)) hu
      rw [hqb] at h
      exact h
     rw [zdg hi]
     clear hg hi hu hqb ha e1 c0
     go_wp2_with fail
     refine zae (by kernel_rfl) (by kernel_rfl) ?_
     iterate 10 (go_big_quiet_step (fail))
     go_big_quiet_step ((go_at_call 11; exact zan KW.out _ _))
     iterate 1 (go_big_quiet_step (fail))
     refine wpQuiet_nil ?_
     intro w6 hw6
     have HX6 := q_ (HX5.out.trans hw6)
     clear hw6 KW
     cases qb with
     | false =>
      go_wp2_with fail
      go_ret
      exact ⟨zag (by rw [HA1.out, if_neg (by rw [zeq Hx.out HOk1.out]; simp)]), HX3.out.trans HX6.out⟩
     | true =>
      go_wp2_with fail
      go_roundw
      case rel => exact ⟨k + 1, by omega, by go_num, by rw [HFn.out, if_pos HTt.out]; go_num, HX6, q_ fun i y hi hy => by
       by_cases hik : i = k
       ·subst hik; rw [Hx.out] at hy; cases hy; exact HOk1.out
       ·exact HA.out i y (by omega) hy⟩
      case measure => simp [intOf]; omega
   ·have ht : x.uid.1 ≠ tAct := fun h => hac (by rw [h]; exact tAct_list)
    have e1 : (x.uid.1.toList == [65, 99, 116, 105, 111, 110]) = false := by simpa using hac
    have HTt := q_ ht
    clear ht hac
    have KT : Hid (∀ X, Ext wr X → Calls Tryz.prog 18 #[.agg #[.slice SA s.types.length sc, .slice SB s.acts.length sd], .string x.uid.1] X fun e w' => e = .returned (.int .i64 (pos (zca s.types x.uid.1))) ∧ Ext X w') := q_ fun X hX => styR_ok S s [.slice SA s.types.length sc, .slice SB s.acts.length sd] x.uid.1 X (fun b hb => Nat.lt_of_lt_of_le (HS.out b hb) (HX3.out.trans (HX.out.trans hX)).size) (HSs.out.alike (Alike.of_ext (HX3.out.trans (HX.out.trans hX)) HS.out))
    have f0 := zaa (show wr.cell? ⟨w.heap.size, 0, none⟩ = some (.slice SA s.types.length sc) from cell_of_row _ _ 0 _ _ _ HBx.out)
    have f1 := zaa (show wr.cell? ⟨w.heap.size, 1, none⟩ = some (.slice SB s.acts.length sd) from cell_of_row _ _ 1 _ _ _ HBx.out)
    have f2 := zaa c0
    go_wp2_with fail
    refine zae (by kernel_rfl) (by kernel_rfl) ?_
    iterate 7 (go_big_quiet_step (fail))
    go_big_quiet_step ((go_at_call 18; exact zan KT.out _ _))
    iterate 1 (go_big_quiet_step (fail))
    refine wpQuiet_nil ?_
    intro w5 hw5
    have HX5 := q_ (HX.out.trans hw5)
    have Hx5 := q_ hw5
    clear hw5 f0 f1 f2 KT c0 e1
    cases hit : zca s.types x.uid.1 with
    | none =>
     have HOk : Hid (okE s acts x = false) := q_ (by unfold okE; rw [if_neg HTt.out, hit])
     rw [show pos (none : Option Nat) = -1 from rfl]
     clear hit
     go_wp2_with fail
     go_ret
     exact ⟨zag (by rw [HA1.out, if_neg (by rw [zeq Hx.out HOk.out]; simp)]), HX3.out.trans HX5.out⟩
    | some it =>
    obtain ⟨tt, htt, _⟩ := zew hit
    have hil := (List.getElem?_eq_some_iff.1 htt).1
    have HOk0 : Hid (okE s acts x = (!(x.ps.any fun p => !(tt.ins.any fun n => decide (n = p.1))) && recB tt.attrs x.av.items x.av.names)) := q_ (by unfold okE; rw [if_neg HTt.out, hit]; simp only [htt])
    have HOnes := q_ (HTy.out tt (List.mem_of_getElem? htt))
    rw [show pos (some it) = (it : Int) from rfl]
    obtain ⟨tb, to, eA, hSb, hrow⟩ := HSr.out (by omega)
    subst eA
    obtain ⟨ct, hct, z1, z2, rfl, _, hins, hats⟩ := hrow it tt htt
    have hct : CellsAt w tb (to + it * 3) _ := hct
    obtain ⟨Ia, ic, rfl, _⟩ := id hins
    obtain ⟨Ta, tc, rfl, ⟨_, _, _⟩, _⟩ := id hats
    have Hins := q_ hins
    have Hats := q_ hats
    have HCi := q_ (show w.cell? ⟨tb, to + it * 3 + 1, none⟩ = some (.slice Ia tt.ins.length ic) from hct 1 _ rfl)
    have HCa := q_ (show w.cell? ⟨tb, to + it * 3 + 2, none⟩ = some (.slice Ta tt.attrs.length tc) from hct 2 _ rfl)
    obtain ⟨pA, pcap, ep, ⟨hp0, hp1, hp2⟩, hpw⟩ := id HPr.out
    injection ep with ep1 ep2 ep3
    subst ep1 ep2 ep3
    rw [zab] at hp2
    rw [zak] at hp0
    have Hpw := q_ hpw
    have HB5 := q_ ((Hx5.out.block _ (zad HBx.out)).trans HBx.out)
    have HX05 := q_ (HX3.out.trans HX5.out)
    clear hit htt hSb hrow hct hins hats hpw
    go_wp2_with fail
    go_loopw [14] (fun q' w6 => ∃ q : Nat, q ≤ x.ps.length ∧ q' = .int .i64 q ∧ Hid (Ext w5 w6) ∧ Hid (∀ i p, i < q → x.ps[i]? = some p → (tt.ins.any fun n => decide (n = p.1)) = true)) (fun q' _ => x.ps.length - (intOf q').toNat)
    case atStart => exact ⟨0, Nat.zero_le _, rfl, q_ (Ext.refl _), q_ fun _ _ h => by omega⟩
    case round =>
     rename World => w6
     obtain ⟨q, hq, rfl, HX6, HQ⟩ := hrel
     have HX06 := q_ (HX05.out.trans HX6.out)
     have Hx6 := q_ (Hx5.out.trans HX6.out)
     have HB6 := q_ ((HX6.out.block _ (zad HB5.out)).trans HB5.out)
     have d2 : w6.cell? ⟨cb, co + k * 11 + 2, none⟩ = some (.slice P x.ps.length pc) := Hx6.out.cell (HCx.out 2 _ rfl)
     by_cases hqt : q < x.ps.length
     ·obtain ⟨p, hp⟩ : ∃ p, x.ps[q]? = some p := ⟨_, List.getElem?_eq_getElem hqt⟩
      obtain ⟨pb, po, eP, hpS, hprow⟩ := Hpw.out (by omega)
      subst eP
      obtain ⟨cp, hcp, rfl, hfp⟩ := hprow q p hp
      have hcp : CellsAt wr pb (po + q * 2) _ := hcp
      obtain ⟨hb, hhb⟩ : ∃ hb, (tt.ins.any fun n => decide (n = p.1)) = hb := ⟨_, rfl⟩
      have Hhb := q_ hhb
      have Hp := q_ hp
      have KH : Hid (∀ X, Ext w6 X → Calls Tryz.prog 35 #[.slice Ia tt.ins.length ic, .string p.1] X fun e w' => e = .returned (.bool hb) ∧ Ext X w') := q_ fun X hX => by
       have h := has_ok13 S tt.ins (.slice Ia tt.ins.length ic) p.1 X (Hins.out.alike (Alike.of_ext (HX06.out.trans hX) HS.out))
       rw [Hhb.out] at h
       exact h.mono fun e w' hh => ⟨hh.1, hh.2 ▸ Ext.refl X⟩
      have f0 := zaa (show w6.cell? ⟨w.heap.size, 0, none⟩ = some (.slice (some ⟨tb, to, none⟩) s.types.length sc) from cell_of_row _ _ 0 _ _ _ HB6.out)
      have f1 := zaa (HX06.out.cell HCi.out)
      have f2 := zaa d2
      have f3 := zaa (show w6.cell? ⟨pb, po + q * 2, none⟩ = some (.string p.1) from Hx6.out.cell (hcp 0 _ rfl))
      clear hhb hp hpS hprow hcp hfp
      go_wp2_with fail
      refine zae (by kernel_rfl) (by kernel_rfl) ?_
      iterate 15 (go_big_quiet_step (fail))
      go_big_quiet_step ((go_at_call 35; exact zan KH.out _ _))
      iterate 1 (go_big_quiet_step (fail))
      refine wpQuiet_nil ?_
      intro w7 hw7
      have HX7 := q_ (HX6.out.trans hw7)
      clear hw7 f0 f1 f2 f3 KH d2
      cases hb with
      | false =>
       have HOk : Hid (okE s acts x = false) := q_ (by
        rw [HOk0.out]
        have h : (x.ps.any fun p => !(tt.ins.any fun n => decide (n = p.1))) = true := List.any_eq_true.2 ⟨p, List.mem_of_getElem? Hp.out, by rw [Hhb.out]; rfl⟩
        rw [h]; rfl)
       go_wp2_with fail
       go_ret
       exact ⟨zag (by rw [HA1.out, if_neg (by rw [zeq Hx.out HOk.out]; simp)]), HX05.out.trans HX7.out⟩
      | true =>
       go_wp2_with fail
       go_roundw
       case rel => exact ⟨q + 1, by omega, by go_num, HX7, q_ fun i y hi hy => by
        by_cases hik : i = q
        ·subst hik; rw [Hp.out] at hy; cases hy; exact Hhb.out
        ·exact HQ.out i y (by omega) hy⟩
       case measure => simp [intOf]; omega
     ·obtain rfl : q = x.ps.length := by omega
      have HOk1 : Hid (okE s acts x = recB tt.attrs x.av.items x.av.names) := q_ (by
       rw [HOk0.out]
       have h : (x.ps.any fun p => !(tt.ins.any fun n => decide (n = p.1))) = false := List.any_eq_false.2 fun p hp => by
        obtain ⟨i, hi⟩ := List.mem_iff_getElem?.1 hp
        rw [HQ.out i p (List.getElem?_eq_some_iff.1 hi).1 hi]
        simp
       rw [h]; simp)
      obtain ⟨his, hk6⟩ := HRec.out x (List.mem_of_getElem? Hx.out)
      obtain ⟨rb, hrb⟩ : ∃ rb, recB tt.attrs x.av.items x.av.names = rb := ⟨_, rfl⟩
      have KV : Hid (∀ X, Ext w6 X → Calls Tryz.prog 36 #[.agg #[.int .i64 xk, .bool xb, .int .i64 xn, .string xt, .string xut, .string xui, .slice A5 l5 c5, .slice A6 l6 c6], .agg #[.int .i64 8, .string ByteArray.empty, .slice none 0 0, .slice Ta tt.attrs.length tc]] X fun e w' => e = .returned (.bool rb) ∧ Ext X w') := q_ fun X hX => by
       have h := takesR_ok _ x.av (Nat.le_refl _) his x.av (by simp) (.mk 8 ByteArray.empty [] tt.attrs) HOnes.out (fun b => b < X.heap.size) X [.int .i64 xk, .bool xb, .int .i64 xn, .string xt, .string xut, .string xui, .slice A5 l5 c5, .slice A6 l6 c6] [.int .i64 8, .string ByteArray.empty, .slice none 0 0, .slice Ta tt.attrs.length tc] (fun _ h => h) ((HAv.out.alike (Alike.of_ext (Hx6.out.trans hX) fun _ h => h)).mono fun b hb => Nat.lt_of_lt_of_le hb (Hx6.out.trans hX).size)
        (Ty.At.of (by unfold I64; omega) (by rw [zab]; decide) (Rep.RowsAt.nil _ _) ((Hats.out.alike (Alike.of_ext (HX06.out.trans hX) HS.out)).mono fun b hb => Nat.lt_of_lt_of_le (HS.out b hb) (HX06.out.trans hX).size))
       rw [takes_rec hk6, hrb] at h
       exact h
      rw [hrb] at HOk1
      have f0 := zaa (show w6.cell? ⟨w.heap.size, 0, none⟩ = some (.slice (some ⟨tb, to, none⟩) s.types.length sc) from cell_of_row _ _ 0 _ _ _ HB6.out)
      have f1 := zaa (HX06.out.cell HCa.out)
      have i0 := zaa (show w6.cell? ⟨cb, co + k * 11 + 3, none⟩ = some (.int .i64 xk) from Hx6.out.cell (HCx.out 3 _ rfl))
      have i1 := zaa (show w6.cell? ⟨cb, co + k * 11 + 3 + 1, none⟩ = some (.bool xb) from Hx6.out.cell (HCx.out 4 _ rfl))
      have i2 := zaa (show w6.cell? ⟨cb, co + k * 11 + 3 + 2, none⟩ = some (.int .i64 xn) from Hx6.out.cell (HCx.out 5 _ rfl))
      have i3 := zaa (show w6.cell? ⟨cb, co + k * 11 + 3 + 3, none⟩ = some (.string xt) from Hx6.out.cell (HCx.out 6 _ rfl))
      have i4 := zaa (show w6.cell? ⟨cb, co + k * 11 + 3 + 4, none⟩ = some (.string xut) from Hx6.out.cell (HCx.out 7 _ rfl))
      have i5 := zaa (show w6.cell? ⟨cb, co + k * 11 + 3 + 5, none⟩ = some (.string xui) from Hx6.out.cell (HCx.out 8 _ rfl))
      have i6 := zaa (show w6.cell? ⟨cb, co + k * 11 + 3 + 6, none⟩ = some (.slice A5 l5 c5) from Hx6.out.cell (HCx.out 9 _ rfl))
      have i7 := zaa (show w6.cell? ⟨cb, co + k * 11 + 3 + 7, none⟩ = some (.slice A6 l6 c6) from Hx6.out.cell (HCx.out 10 _ rfl))
      clear his hk6 hrb
      go_wp2_with fail
      refine zae (by kernel_rfl) (by kernel_rfl) ?_
      iterate 12 (go_big_quiet_step (fail))
      go_big_quiet_step ((go_at_call 36; exact zan KV.out _ _))
      iterate 1 (go_big_quiet_step (fail))
      refine wpQuiet_nil ?_
      intro w7 hw7
      have HX7 := q_ (HX5.out.trans (HX6.out.trans hw7))
      clear hw7 f0 f1 i0 i1 i2 i3 i4 i5 i6 i7 KV d2
      cases rb with
      | false =>
       go_wp2_with fail
       go_ret
       exact ⟨zag (by rw [HA1.out, if_neg (by rw [zeq Hx.out HOk1.out]; simp)]), HX3.out.trans HX7.out⟩
      | true =>
       go_wp2_with fail
       go_roundw
       case rel => exact ⟨k + 1, by omega, by go_num, by rw [HFn.out, if_neg HTt.out]; rfl, HX7, q_ fun i y hi hy => by
        by_cases hik : i = k
        ·subst hik; rw [Hx.out] at hy; cases hy; exact HOk1.out
        ·exact HA.out i y (by omega) hy⟩
       case measure => simp [intOf]; omega
  ·obtain rfl : k = c.length := by omega
   have HAll : Hid (c.all (okE s acts) = true) := q_ (by
    rw [List.all_eq_true]
    intro x hx
    obtain ⟨i, hi⟩ := List.mem_iff_getElem?.1 hx
    exact HA.out i x (List.getElem?_eq_some_iff.1 hi).1 hi)
   rw [List.take_length] at hfk' ⊢
   have HA2 : Hid (ans = if zbz c < acts.length then 41 else 0) := q_ (by rw [HA1.out, HAll.out, if_pos rfl])
   have hmost := found_most HNd.out HAll.out
   by_cases hf : zbz c < acts.length
   ·have HF := q_ hf
    have t0 : ((zbz c : Int) != (acts.length : Int)) = true := by simp; omega
    clear hmost
    go_wp2_with fail
    go_ret
    exact ⟨zag (by rw [HA2.out, if_pos HF.out]), HX3.out.trans HX.out⟩
   ·have HF := q_ hf
    have t0 : ((zbz c : Int) != (acts.length : Int)) = false := by simp; omega
    clear hmost
    go_wp2_with fail
    go_ret
    exact ⟨zag (by rw [HA2.out, if_neg HF.out]), HX3.out.trans HX.out⟩
end Go.Proofs.YtbkaffhbhimglaaGreat
