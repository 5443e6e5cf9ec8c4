/-
  Whether entities conform to a schema: the program's Store. The conditions: all lies in memory as it should, and is of modest size.
-/
import Derived.Test.YtbkaffhbhimglaaGreatStoP1Q
import Derived.Test.YtbkaffhbhimglaaGreatGf
namespace Go.Proofs.YtbkaffhbhimglaaGreat
open Go.RowKit
open Lib renaming hid → q_
set_option maxRecDepth 100000
set_option maxHeartbeats 8000000
def okE (s : Sch) (acts : List Ent) (x : Ent) : Bool :=
 if x.uid.1 = tAct then acts.any (sameE x) else
 match zca s.types x.uid.1 with
 | none => false
 | some i => match s.types[i]? with
  | none => false
  | some t => !(x.ps.any fun p => !(t.ins.any fun n => decide (n = p.1))) && recB t.attrs x.av.items x.av.names
def zbz (l : List Ent) : Nat := (l.filter fun x => decide (x.uid.1 = tAct)).length
noncomputable def zdp (s : Sch) (l : List Ent) : Int :=
 if (zar l).2 ≠ 0 then (zar l).2 else
 if (zar l).1.all (okE s (zar (zaz s.acts)).1) then (if zbz (zar l).1 < (zar (zaz s.acts)).1.length then 41 else 0) else 41
theorem zej (l : List Ent) : (zar l).1.length ≤ l.length := by
 by_cases h : Good l
 ·rw [canonE_length h]; exact Nat.le_refl _
 ·rw [canonE_bad h]; exact Nat.zero_le _
theorem canonE_rec {l : List Ent} (h : (zar l).2 = 0) {x : Ent} (hx : x ∈ (zar l).1) : x.av.Is ∧ x.av.kind = 6 := by
 have hg := canonE_iff.1 h
 obtain ⟨e, he, rfl⟩ := (canonE_mem hg x).1 hx
 have h0 := (hg.ones e he).2.1
 have h6 := (hg.ones e he).1
 refine ⟨canon_is h0, ?_⟩
 show e.av.canon.1.kind = 6
 exact canon_kind h6 h0
theorem foundN_le (l : List Ent) : zbz l ≤ l.length := List.length_filter_le _ _
theorem foundN_next {l : List Ent} {k : Nat} {x : Ent} (h : l[k]? = some x) : zbz (l.take (k + 1)) = zbz (l.take k) + if x.uid.1 = tAct then 1 else 0 := by
 rw [take_next h]
 unfold zbz
 rw [List.filter_append, List.length_append]
 by_cases hx : x.uid.1 = tAct <;> simp [hx]
theorem actsE_small {l : List ActT} (hp : ∀ a ∈ l, a.ins.length ≤ 1048576) : (∀ e ∈ zaz l, e.ps.length ≤ 1048576) ∧ ∀ e ∈ zaz l, e.av.dep ≤ 1000000 := by
 constructor <;> intro e he <;> obtain ⟨a, ha, rfl⟩ := List.mem_map.1 he
 ·show (upA a.ins).length ≤ _
  simp [upA]; exact hp a ha
 ·show recV.dep ≤ _
  decide
theorem of_beq {a b : List UInt8} (h : (a == b) = true) : a = b := by simpa using h
theorem tAct_not {x : ByteArray} (h : (x.toList == [65, 99, 116, 105, 111, 110]) = false) : x ≠ tAct := fun e => by rw [e, tAct_list] at h; simp at h
theorem zeq {α : Type} {l : List α} {p : α → Bool} {i : Nat} {x : α} (hx : l[i]? = some x) (h : p x = false) : l.all p = false := by
 rw [Bool.eq_false_iff]
 intro ht
 rw [List.all_eq_true] at ht
 rw [ht x (List.mem_of_getElem? hx)] at h
 cases h
theorem rows_at {α : Type} {R : Rep α} {S : Nat → Prop} {w : World} {l : List α} {A : Option Addr} {n c : Nat} (h : R.RowsAt S w l (.slice A n c)) (hn : 0 < l.length) : ∃ b o, A = some ⟨b, o, none⟩ ∧ S b ∧ R.RowAt S w l b o := by
 obtain ⟨A', c', e, _, hr⟩ := h
 injection e with e1 _ _
 subst e1
 exact hr hn
theorem is_rec {v : Val} (h : v.Is) (hk : v.kind = 6) : v.names.length ≤ v.items.length ∧ ∀ x ∈ v.items, x.Is := by
 obtain ⟨k, bo, n, t, ut, ui, items, names⟩ := v
 obtain rfl : k = 6 := hk
 unfold Val.Is at h
 rcases h with h | h | h | h | h | h
 ·exact absurd h.1 (by decide)
 ·exact absurd h.1 (by decide)
 ·exact absurd h.1 (by decide)
 ·exact absurd h.1 (by decide)
 ·exact absurd h.1 (by decide)
 ·exact ⟨Nat.le_of_eq h.2.2.2.2.2.2.1, (Val.are_iff _).1 h.2.2.2.2.2.2.2.2.2⟩
theorem record_of (v : Val) (_hk : v.kind = 6) (hle : v.names.length ≤ v.items.length) (hit : ∀ x ∈ v.items, x.Is) (l : List Atr) (S : Nat → Prop) (w : World) (cs : List Value) (rv : Value) (hS : ∀ b, S b → b < w.heap.size)
  (hv : Val.At S w v cs) (hl : atrR.RowsAt S w l rv) : Calls Tryz.prog 32 #[.agg cs.toArray, rv] w fun e w' => e = .returned (.bool (recB l v.items v.names)) ∧ Ext w w' := by
 obtain ⟨k, bo, n, t, ut, ui, items, names⟩ := v
 exact record_okC k bo n t ut ui items names hle l S w cs rv hS hv hl fun x hx => takes_ok _ x (Nat.le_refl _) (hit x hx) x (by simp)
theorem storeP_ok (S : Nat → Prop) (s : Sch) (ss : List Value) (l : List Ent) (v : Value) (w : World) (hS : ∀ b, S b → b < w.heap.size) (hs : Sch.At S w s ss) (hl : entR.RowsAt S w l v) (h20 : l.length ≤ 1048576) (hps : ∀ e ∈ l, e.ps.length ≤ 1048576) (hdep : ∀ e ∈ l, e.av.dep ≤ 1000000)
  (ha20 : s.acts.length ≤ 1048576) (hap : ∀ a ∈ s.acts, a.ins.length ≤ 1048576) :
  Calls Tryz.prog 9 #[.agg ss.toArray, v] w fun e w' => e = .returned (.int .i64 (zdp s l)) ∧ Ext w w' := by
 have HSs := q_ hs
 have HL := q_ hl
 obtain ⟨_, _, rfl, ⟨SA, sc, rfl, _⟩, ⟨SB, sd, rfl, _⟩⟩ := hs
 obtain ⟨LA, lc, rfl, _⟩ := hl
 have HS := q_ hS
 have HP := q_ hps
 have HDp := q_ hdep
 have HAp := q_ (actsE_small hap)
 have HAl := q_ (show (zaz s.acts).length ≤ 1048576 by simpa [zaz] using ha20)
 obtain ⟨ans, hans⟩ : ∃ ans, zdp s l = ans := ⟨_, rfl⟩
 rw [hans]
 have HAns := q_ hans
 have hx0 := (Ext.refl w).alloc (.cells #[.slice SA s.types.length sc, .slice SB s.acts.length sd] 25)
 have HX0 := q_ hx0
 clear hS hps hdep hap hans hx0
 go_enter Tryz.func9, Tryz.ntmps9
 go_wp2_with fail
 refine (canE_ok S l _ _ (fun b hb => Nat.lt_of_lt_of_le (HS.out b hb) HX0.out.size) (HL.out.alike (Alike.of_ext HX0.out HS.out)) h20 HP.out HDp.out).mono ?_
 rintro e w1 ⟨cv, rfl, ⟨xs, hown, hfl⟩, hx1⟩
 have HX1 := q_ (HX0.out.trans hx1)
 have HB1 : Hid (w1.heap[w.heap.size]? = some (.cells #[.slice SA s.types.length sc, .slice SB s.acts.length sd] 25 (0, 0))) := q_ ((hx1.block _ (by simp)).trans (heap_alloc_new _ _))
 have hcl := zej l
 have hcr : entR.RowsAt (fun b => b < w1.heap.size) w1 (zar l).1 cv := zd3 hown hfl (by rw [zak]; omega) (fun b hb => hb.2.1) fun b hb => (hown.lt b hb).2
 have HCr := q_ hcr
 obtain ⟨Ac, cc, rfl, ⟨_, hc1, hc2⟩, _⟩ := hcr
 rw [zab] at hc2
 clear hx1 hown hfl
 by_cases he : (zar l).2 = 0
 case neg =>
  obtain ⟨er, her⟩ : ∃ er, (zar l).2 = er := ⟨_, rfl⟩
  rw [her] at he ⊢
  have HN : Hid (ans = er) := q_ (by rw [← HAns.out]; unfold zdp; rw [her, if_pos he])
  have e0 : (er != 0) = true := by simpa using he
  clear he her
  go_wp2_with fail
  go_ret
  exact ⟨zag HN.out.symm, HX1.out⟩
 have HE := q_ he
 have HA1 : Hid (ans = if (zar l).1.all (okE s (zar (zaz s.acts)).1) then (if zbz (zar l).1 < (zar (zaz s.acts)).1.length then 41 else 0) else 41) := q_ (by rw [← HAns.out]; unfold zdp; rw [he, if_neg (by simp)])
 have hrec : ∀ x ∈ (zar l).1, x.av.Is ∧ x.av.kind = 6 := fun x hx => canonE_rec he hx
 rw [he]
 generalize (zar l).1 = c at *
 have HRec := q_ hrec
 clear he hrec HE HAns
 go_wp2_with (first | refine zac rfl 25 _ rfl w.heap.size 0 rfl zck zb5 (cs := [.slice SA s.types.length sc, .slice SB s.acts.length sd]) rfl (zat HB1.out) ?_)
 refine (actions_ok S s [_, _] w1 (fun b hb => Nat.lt_of_lt_of_le (HS.out b hb) HX1.out.size) (HSs.out.alike (Alike.of_ext HX1.out HS.out))).mono ?_
 rintro e w2 ⟨av, rfl, hao, hx2⟩
 have HX2 := q_ (HX1.out.trans hx2)
 have HB2 := q_ ((hx2.block _ (zad HB1.out)).trans HB1.out)
 have HC2 := q_ ((HCr.out.alike (Alike.of_ext hx2 fun _ h => h)).mono fun b hb => Nat.lt_of_lt_of_le hb hx2.size)
 have har := hao.rows (by have := HAl.out; rw [zak]; omega)
 have HAr := q_ har
 obtain ⟨A1, c1, rfl, _⟩ := har
 clear hao hx2
 go_wp2_with fail
 refine (canE_ok _ (zaz s.acts) _ w2 (fun _ h => h) HAr.out HAl.out HAp.out.1 HAp.out.2).mono ?_
 rintro e w3 ⟨bv, rfl, ⟨ys, hown, hfl⟩, hx3⟩
 have HX3 := q_ (HX2.out.trans hx3)
 have HB3 := q_ ((hx3.block _ (zad HB2.out)).trans HB2.out)
 have HC3 := q_ ((HC2.out.alike (Alike.of_ext hx3 fun _ h => h)).mono fun b hb => Nat.lt_of_lt_of_le hb hx3.size)
 have hal := zej (zaz s.acts)
 have hbl : (zar (zaz s.acts)).1.length ≤ 1048576 := Nat.le_trans hal HAl.out
 have hbr : entR.RowsAt (fun b => b < w3.heap.size) w3 (zar (zaz s.acts)).1 bv := zd3 hown hfl (by rw [zak]; omega) (fun b hb => hb.2.1) fun b hb => (hown.lt b hb).2
 generalize (zar (zaz s.acts)).2 = er2
 generalize (zar (zaz s.acts)).1 = acts at *
 have HBr := q_ hbr
 obtain ⟨Ab, bc, rfl, _⟩ := hbr
 clear hx3 hown hfl hal
 go_wp2_with fail
 go_loopw [9, 32] (fun f' i' wr => ∃ k : Nat, k ≤ c.length ∧ i' = .int .i64 k ∧ f' = .int .i64 (zbz (c.take k)) ∧ Hid (Ext w3 wr) ∧ Hid (∀ i x, i < k → c[i]? = some x → okE s acts x = true)) (fun _ i' _ => c.length - (intOf i').toNat)
 case atStart => exact ⟨0, Nat.zero_le _, rfl, rfl, q_ (Ext.refl _), q_ fun _ _ h => by omega⟩
 case round =>
  obtain ⟨k, hk, rfl, rfl, HX, HA⟩ := hrel
  have hfk := foundN_le (c.take k)
  have hfk' : zbz (c.take k) ≤ 1048576 := by
   have : (c.take k).length ≤ c.length := by rw [List.length_take]; omega
   omega
  by_cases hlt : k < c.length
  ·obtain ⟨x, hx⟩ : ∃ x, c[k]? = some x := ⟨_, List.getElem?_eq_getElem hlt⟩
   obtain ⟨cb, co, eA, hcb, hcrow⟩ := rows_at HC3.out (by omega)
   subst eA
   obtain ⟨cx, hcx, hxa⟩ := hcrow k x hx
   have hcx : CellsAt w3 cb (co + k * 11) cx := hcx
   have hcx := hcx.alike (S := fun b => b < w3.heap.size) hcb (Alike.of_ext HX.out fun _ h => h)
   have hxa := entR.mono (entR.alike hxa (Alike.of_ext HX.out fun _ h => h)) (fun b hb => Nat.lt_of_lt_of_le hb HX.out.size)
   obtain ⟨P, pl, pc, xk, xb, xn, xt, xut, xui, A5, l5, c5, A6, l6, c6, rfl⟩ := zdj hxa
   have HCx := q_ hcx
   have HXa := q_ hxa
   have Hx := q_ hx
   have HFn := q_ (foundN_next hx)
   clear hcx hxa hx hcrow hcb hfk
   obtain ⟨W, hW⟩ : ∃ W, W = wr.alloc (.cells #[.string x.uid.1, .string x.uid.2, .slice P pl pc, .int .i64 xk, .bool xb, .int .i64 xn, .string xt, .string xut, .string xui, .slice A5 l5 c5, .slice A6 l6 c6] 49) := ⟨_, rfl⟩
   have hxW : Ext wr W := by rw [hW]; exact (Ext.refl wr).alloc _
   have hnew : W.heap[wr.heap.size]? = some (.cells #[.string x.uid.1, .string x.uid.2, .slice P pl pc, .int .i64 xk, .bool xb, .int .i64 xn, .string xt, .string xut, .string xui, .slice A5 l5 c5, .slice A6 l6 c6] 49 (0, 0)) := by rw [hW]; exact heap_alloc_new _ _
   have hBW := ((HX.out.trans hxW).block _ (zad HB3.out)).trans HB3.out
   have HBW := q_ hBW
   have HXW := q_ hxW
   have HNew := q_ hnew
   clear hxW hnew hBW
   subst hW
   go_wp2_with (first | refine zac rfl 49 _ rfl cb (co + k * 11) rfl za0 zau rfl HCx.out ?_ | refine zac rfl 25 _ rfl w.heap.size 0 rfl zck zb5 (cs := [.slice SA s.types.length sc, .slice SB s.acts.length sd]) rfl (zat HBW.out) ?_)
   ·have ht : x.uid.1 = tAct := tAct_of (of_beq (by assumption))
    have HTt := q_ ht
    clear ht
    refine (containsFuncRE entR rfl 25 #[.pointer (some ⟨wr.heap.size, 0, none⟩)] (sameE x) (fun b => b < wr.heap.size) acts _ _ Tryz.enterS1 (fun b hb => Nat.lt_of_lt_of_le hb HXW.out.size) (((HBr.out.alike (Alike.of_ext HX.out fun _ h => h)).mono fun b hb => Nat.lt_of_lt_of_le hb HX.out.size).alike (Alike.of_ext HXW.out fun _ h => h))
     (fun a _ ca w5 hw5 ha => store1_ok x a (fun b => b < wr.heap.size) w5 _ ca wr.heap.size (fun b hb => Nat.lt_of_lt_of_le hb (HXW.out.trans hw5).size) (entR.alike HXa.out (Alike.of_ext (HXW.out.trans hw5) fun _ h => h)) ha ((hw5.block _ (zad HNew.out)).trans HNew.out))).mono ?_
    rintro e w5 ⟨rfl, hx5⟩
    have HX5 := q_ (HX.out.trans (HXW.out.trans hx5))
    clear hx5
    obtain ⟨sb, hsb⟩ : ∃ sb, acts.any (sameE x) = sb := ⟨_, rfl⟩
    rw [hsb]
    have HOk : Hid (okE s acts x = sb) := q_ (by unfold okE; rw [if_pos HTt.out]; exact hsb)
    clear hsb
    cases sb with
    | false =>
     go_wp2_with fail
     go_ret
     exact ⟨zag (by rw [HA1.out, if_neg (by rw [zeq Hx.out HOk.out]; simp)]), HX3.out.trans HX5.out⟩
    | true =>
     go_wp2_with fail
     go_roundw
     case rel => exact ⟨k + 1, by omega, by go_num, by rw [HFn.out, if_pos HTt.out]; go_num, HX5, q_ fun i y hi hy => by
      by_cases hik : i = k
      ·subst hik; rw [Hx.out] at hy; cases hy; exact HOk.out
      ·exact HA.out i y (by omega) hy⟩
     case measure => simp [intOf]; omega
   ·have ht : x.uid.1 ≠ tAct := tAct_not (by assumption)
    have HTt := q_ ht
    clear ht
    refine (sty_ok S s [_, _] x.uid.1 _ (fun b hb => Nat.lt_of_lt_of_le (HS.out b hb) (HX3.out.trans (HX.out.trans HXW.out)).size) (HSs.out.alike (Alike.of_ext (HX3.out.trans (HX.out.trans HXW.out)) HS.out))).mono ?_
    rintro e w5 ⟨ct, rfl, hct, hx5⟩
    have HX5 := q_ (HX.out.trans (HXW.out.trans hx5))
    have HE5 := q_ ((hx5.block _ (zad HNew.out)).trans HNew.out)
    have HX5' := q_ (HXW.out.trans hx5)
    clear hx5
    rcases hct with ⟨hno, rfl⟩ | ⟨it, tt, hit, htt, hta⟩
    ·rw [hno]
     have HOk : Hid (okE s acts x = false) := q_ (by unfold okE; rw [if_neg HTt.out, hno])
     rw [show zeroEntT = [.string ByteArray.empty, .slice none 0 0, .slice none 0 0] from rfl]
     simp only [Option.isSome]
     clear hno
     go_wp2_with fail
     go_ret
     exact ⟨zag (by rw [HA1.out, if_neg (by rw [zeq Hx.out HOk.out]; simp)]), HX3.out.trans (HX5.out.alloc _)⟩
    ·rw [hit]
     have HOk0 : Hid (okE s acts x = (!(x.ps.any fun p => !(tt.ins.any fun n => decide (n = p.1))) && recB tt.attrs x.av.items x.av.names)) := q_ (by unfold okE; rw [if_neg HTt.out, hit]; simp only [htt])
     have hta0 := hta
     obtain ⟨z1, z2, rfl, _, hins, hats⟩ := hta
     obtain ⟨Ia, ic, rfl, _⟩ := id hins
     obtain ⟨Ta, tc, rfl, ⟨_, _, _⟩, _⟩ := id hats
     obtain ⟨V, hV⟩ : ∃ V, V = w5.alloc (.cells #[.string tt.name, .slice Ia tt.ins.length ic, .slice Ta tt.attrs.length tc] 39) := ⟨_, rfl⟩
     have hxV : Ext w5 V := by rw [hV]; exact (Ext.refl w5).alloc _
     have hnewT : V.heap[w5.heap.size]? = some (.cells #[.string tt.name, .slice Ia tt.ins.length ic, .slice Ta tt.attrs.length tc] 39 (0, 0)) := by rw [hV]; exact heap_alloc_new _ _
     have hEV := (hxV.block _ (zad HE5.out)).trans HE5.out
     have d2 : V.cell? ⟨wr.heap.size, 2, none⟩ = some (.slice P pl pc) := cell_of_row _ _ 2 _ _ _ hEV
     have HSV : Hid (∀ b, S b → b < w5.heap.size) := q_ fun b hb => Nat.lt_of_lt_of_le (HS.out b hb) (HX3.out.trans HX5.out).size
     have HTa := q_ (entTR.alike hta0 (Alike.of_ext hxV HSV.out))
     have HAt := q_ (hats.alike (Alike.of_ext hxV HSV.out))
     have HNT := q_ hnewT
     have HEV := q_ hEV
     have HXV := q_ hxV
     obtain ⟨_, _, e, _, hpr, hav⟩ := HXa.out
     cases e
     have HPr := q_ (hpr.alike (Alike.of_ext (HX5'.out.trans hxV) fun _ h => h))
     have HAv := q_ (hav.alike (Alike.of_ext (HX5'.out.trans hxV) fun _ h => h))
     simp only [Option.isSome]
     clear hit htt hta0 hins hats hxV hnewT hEV hpr hav
     subst hV
     go_wp2_with fail
     refine (containsFunc_okU 29 #[.pointer (some ⟨w5.heap.size, 0, none⟩)] (fun p => !(tt.ins.any fun n => decide (n = p.1))) (fun b => b < wr.heap.size) x.ps _ _ Tryz.enterS2 (fun b hb => Nat.lt_of_lt_of_le hb (HX5'.out.trans HXV.out).size) HPr.out
      (fun p _ _ w6 hw6 => store2_ok tt p S w6 _ w5.heap.size (fun b hb => Nat.lt_of_lt_of_le (HSV.out b hb) (HXV.out.trans hw6).size) (entTR.alike HTa.out (Alike.of_ext hw6 fun b hb => Nat.lt_of_lt_of_le (HSV.out b hb) HXV.out.size)) ((hw6.block _ (zad HNT.out)).trans HNT.out))).mono ?_
     rintro e w6 ⟨rfl, hx6⟩
     obtain ⟨qb, hqb⟩ : ∃ qb, (x.ps.any fun p => !(tt.ins.any fun n => decide (n = p.1))) = qb := ⟨_, rfl⟩
     rw [hqb]
     rw [hqb] at HOk0
     have HX6 := q_ (HX5.out.trans (HXV.out.trans hx6))
     have hE6 := (hx6.block _ (zad HEV.out)).trans HEV.out
     have hT6 := (hx6.block _ (zad HNT.out)).trans HNT.out
     have f3 : w6.cell? ⟨wr.heap.size, 3, none⟩ = some (.int .i64 xk) := cell_of_row _ _ 3 _ _ _ hE6
     have f4 : w6.cell? ⟨wr.heap.size, 4, none⟩ = some (.bool xb) := cell_of_row _ _ 4 _ _ _ hE6
     have f5 : w6.cell? ⟨wr.heap.size, 5, none⟩ = some (.int .i64 xn) := cell_of_row _ _ 5 _ _ _ hE6
     have f6 : w6.cell? ⟨wr.heap.size, 6, none⟩ = some (.string xt) := cell_of_row _ _ 6 _ _ _ hE6
     have f7 : w6.cell? ⟨wr.heap.size, 7, none⟩ = some (.string xut) := cell_of_row _ _ 7 _ _ _ hE6
     have f8 : w6.cell? ⟨wr.heap.size, 8, none⟩ = some (.string xui) := cell_of_row _ _ 8 _ _ _ hE6
     have f9 : w6.cell? ⟨wr.heap.size, 9, none⟩ = some (.slice A5 l5 c5) := cell_of_row _ _ 9 _ _ _ hE6
     have fa : w6.cell? ⟨wr.heap.size, 10, none⟩ = some (.slice A6 l6 c6) := cell_of_row _ _ 10 _ _ _ hE6
     have g4 : w6.cell? ⟨wr.heap.size, 3 + 1, none⟩ = some (.bool xb) := f4
     have g5 : w6.cell? ⟨wr.heap.size, 3 + 2, none⟩ = some (.int .i64 xn) := f5
     have g6 : w6.cell? ⟨wr.heap.size, 3 + 3, none⟩ = some (.string xt) := f6
     have g7 : w6.cell? ⟨wr.heap.size, 3 + 4, none⟩ = some (.string xut) := f7
     have g8 : w6.cell? ⟨wr.heap.size, 3 + 5, none⟩ = some (.string xui) := f8
     have g9 : w6.cell? ⟨wr.heap.size, 3 + 6, none⟩ = some (.slice A5 l5 c5) := f9
     have ga : w6.cell? ⟨wr.heap.size, 3 + 7, none⟩ = some (.slice A6 l6 c6) := fa
     have t2 : w6.cell? ⟨w5.heap.size, 2, none⟩ = some (.slice Ta tt.attrs.length tc) := cell_of_row _ _ 2 _ _ _ hT6
     have HAv6 := q_ (HAv.out.alike (Alike.of_ext hx6 fun b hb => Nat.lt_of_lt_of_le hb (HX5'.out.trans HXV.out).size))
     have HAt6 := q_ (HAt.out.alike (Alike.of_ext hx6 fun b hb => Nat.lt_of_lt_of_le (HSV.out b hb) HXV.out.size))
     have HSz := q_ (show wr.heap.size ≤ w6.heap.size from ((HX5'.out.trans HXV.out).trans hx6).size)
     have HSS := q_ (show ∀ b, S b → b < w6.heap.size from fun b hb => Nat.lt_of_lt_of_le (HSV.out b hb) (HXV.out.trans hx6).size)
     clear hqb hx6 hE6 hT6 d2
     cases qb with
     | true =>
      clear f3 f4 f5 f6 f7 f8 f9 fa g4 g5 g6 g7 g8 g9 ga t2
      have HOk : Hid (okE s acts x = false) := q_ (by rw [HOk0.out]; rfl)
      go_wp2_with fail
      go_ret
      exact ⟨zag (by rw [HA1.out, if_neg (by rw [zeq Hx.out HOk.out]; simp)]), HX3.out.trans HX6.out⟩
     | false =>
      have HOk1 : Hid (okE s acts x = recB tt.attrs x.av.items x.av.names) := q_ (by rw [HOk0.out]; simp)
      obtain ⟨his, hk6⟩ := HRec.out x (List.mem_of_getElem? Hx.out)
      obtain ⟨hle, hits⟩ := is_rec his hk6
      have hK := record_of x.av hk6 hle hits tt.attrs (fun b => b < w6.heap.size) w6 _ _ (fun _ h => h) (HAv6.out.mono fun b hb => Nat.lt_of_lt_of_le hb HSz.out) (HAt6.out.mono HSS.out)
      obtain ⟨rb, hrb⟩ : ∃ rb, recB tt.attrs x.av.items x.av.names = rb := ⟨_, rfl⟩
      rw [hrb] at hK HOk1
      have HK := q_ hK
      clear his hk6 hle hits hK hrb HOk0
      go_wp2_with fail
      refine HK.out.mono ?_
      rintro e w7 ⟨rfl, hx7⟩
      have HX7 := q_ (HX6.out.trans hx7)
      clear hx7 f3 f4 f5 f6 f7 f8 f9 fa g4 g5 g6 g7 g8 g9 ga t2
      cases rb with
      | false =>
       go_wp2_with fail
       go_ret
       exact ⟨zag (by rw [HA1.out, if_neg (by rw [zeq Hx.out HOk1.out]; simp)]), HX3.out.trans HX7.out⟩
      | true =>
       go_wp2_with fail
       go_roundw
       case rel => exact ⟨k + 1, by omega, by go_num, by rw [HFn.out, if_neg HTt.out]; rfl, HX7, q_ fun i y hi hy => by
        by_cases hik : i = k
        ·subst hik; rw [Hx.out] at hy; cases hy; exact HOk1.out
        ·exact HA.out i y (by omega) hy⟩
       case measure => simp [intOf]; omega
  ·obtain rfl : k = c.length := by omega
   have HAll : Hid (c.all (okE s acts) = true) := q_ (by
    rw [List.all_eq_true]
    intro x hx
    obtain ⟨i, hi⟩ := List.mem_iff_getElem?.1 hx
    exact HA.out i x (List.getElem?_eq_some_iff.1 hi).1 hi)
   rw [List.take_length] at hfk' ⊢
   have HA2 : Hid (ans = if zbz c < acts.length then 41 else 0) := q_ (by rw [HA1.out, HAll.out, if_pos rfl])
   by_cases hf : zbz c < acts.length
   ·have HF := q_ hf
    go_wp2_with fail
    go_ret
    exact ⟨zag (by rw [HA2.out, if_pos HF.out]), HX3.out.trans HX.out⟩
   ·have HF := q_ hf
    go_wp2_with fail
    go_ret
    exact ⟨zag (by rw [HA2.out, if_neg HF.out]), HX3.out.trans HX.out⟩
end Go.Proofs.YtbkaffhbhimglaaGreat
