/-
  The document's answer to whether a way leads from one action to another. The conditions: the schema lies in memory as it should, and is small.
-/
import Derived.Test.YtbkaffhbhimglaaGreatChk12Q
namespace Go.Proofs.YtbkaffhbhimglaaGreat
open Go.RowKit
open Lib renaming hid → q_
set_option maxRecDepth 100000
set_option maxHeartbeats 4000000
theorem strs_src {S : Nat → Prop} {w : World} {l : List ByteArray} {A : Option Addr} {n c : Nat} (h : strR.RowsAt S w l (.slice A n c)) : SrcAt w A n (l.map Value.string) ∧ strR.Flat S w l (l.map Value.string) ∧ l.length = n := by
 obtain ⟨A', cap, e, _, hr⟩ := h
 injection e with e1 e2 e3
 subst e1 e2 e3
 have hf : ∀ m : List ByteArray, (∀ x ∈ m, x.size ≤ maxLen) → strR.Flat S w m (m.map Value.string) := by
  intro m hm
  induction m with
  | nil => rfl
  | cons x r ih => exact ⟨[.string x], r.map Value.string, rfl, ⟨rfl, hm x (by simp)⟩, ih fun y hy => hm y (by simp [hy])⟩
 rcases Nat.eq_zero_or_pos l.length with h0 | h0
 ·exact ⟨fun h => by omega, by obtain rfl := List.eq_nil_of_length_eq_zero h0; rfl, rfl⟩
 ·obtain ⟨b, o, rfl, hS, hrow⟩ := hr h0
  obtain ⟨hc, hs⟩ := strs_row.1 hrow
  exact ⟨fun _ => ⟨b, o, rfl, hc⟩, hf l hs, rfl⟩
theorem any_at {R : List ByteArray} {p : ByteArray} {b : Bool} (h : (R.any fun z => decide (z = p)) = b) : (b = true → p ∈ R) ∧ (b = false → p ∉ R) := by
 subst h
 refine ⟨fun h => by simpa using h, fun h hm => ?_⟩
 rw [List.any_eq_false] at h
 exact h p hm (by simp)
noncomputable def leadB (l : List ActT) (low high : ByteArray) : Bool := by classical exact decide (LeadTo l low high)
theorem leadB_iff {l : List ActT} {low high : ByteArray} : leadB l low high = true ↔ LeadTo l low high := by unfold leadB; simp
theorem leads12_ok (S : Nat → Prop) (s : Sch) (ss : List Value) (low high : ByteArray) (w : World) (h10 : s.acts.length ≤ 10) (hi10 : ∀ a ∈ s.acts, a.ins.length ≤ 10) (hS : ∀ b, S b → b < w.heap.size) (hs : Sch.At S w s ss) :
  Calls Tryz.prog 23 #[.agg ss.toArray, .bool true, .string low, .string high] w fun e w' => e = .returned (.bool (leadB s.acts low high)) ∧ Ext w w' := by
 obtain ⟨v1, v2, rfl, h1, h2⟩ := id hs
 obtain ⟨A1, c1, rfl, ⟨ha0, ha1, ha2⟩, har⟩ := id h1
 obtain ⟨A2, c2, rfl, ⟨hb0, hb1, hb2⟩, hbr⟩ := id h2
 rw [zak] at ha0 hb0
 rw [zab] at ha2 hb2
 have HS := q_ hS
 have HSs := q_ hs
 obtain ⟨i0, hi0, hz0, hz1, hz2⟩ := info_parts Tryz.info9
 have HN := q_ fun nm => next12_ok S s [.slice A1 s.types.length c1, .slice A2 s.acts.length c2] nm w hS hs
 have H10 := q_ h10
 have HI10 := q_ hi10
 obtain ⟨v0, hv0, hc0⟩ := HN.out low
 have hn0 := nextA_len hi10 low
 obtain ⟨A0, cap0, rfl, ⟨_, p1, p2⟩, _⟩ := id hv0
 rw [zab] at p2
 have HV0 := q_ hv0
 have HC0 := q_ hc0
 have HLB : Hid (∀ b : Bool, (b = true → LeadTo s.acts low high) → (b = false → ¬ LeadTo s.acts low high) → leadB s.acts low high = b) := q_ fun b h1 h2 => by
  cases b with
  | true => exact leadB_iff.2 (h1 rfl)
  | false => exact Bool.eq_false_iff.2 fun h => h2 rfl (leadB_iff.1 h)
 generalize leadB s.acts low high = res at *
 clear hS hs h1 h2 har hbr h10 hi10 hv0 hc0
 go_enter Tryz.func23, Tryz.ntmps23
 go_wp2_with fail
 refine (HC0.out _ ((Ext.refl w).alloc _)).mono ?_
 rintro e w1 ⟨rfl, hx1⟩
 have HX1 := q_ (((Ext.refl w).alloc (.cells #[.slice A1 s.types.length c1, .slice A2 s.acts.length c2] 25)).trans hx1)
 have HB1 : Hid (w1.heap[w.heap.size]? = some (.cells #[.slice A1 s.types.length c1, .slice A2 s.acts.length c2] 25 (0, 0))) := q_ ((hx1.block _ (by simp)).trans (heap_alloc_new _ _))
 have hsz1 : w.heap.size + 1 ≤ w1.heap.size := zad HB1.out
 have HSz1 := q_ hsz1
 have Hsrc := q_ (strs_src (HV0.out.alike (Alike.of_ext HX1.out HS.out)))
 have Hfl : Hid (strR.Flat (fun b => b < w1.heap.size ∧ (Value.slice none 0 0).ownBlock ≠ some b) w1 (zc4 s.acts low) ((zc4 s.acts low).map Value.string)) := q_ (Hsrc.out.2.1.mono fun b hb => ⟨Nat.lt_of_lt_of_le (HS.out b hb) HX1.out.size, fun e => by cases e⟩)
 clear hx1 hsz1 HC0
 go_wp2_with (at_builtin; refine zb3 rfl (.tmp 13) (.tmp 17) 36 rfl strR (w.heap.size + 1) 9 i0 _ 16 Tryz.underlying36 hi0 hz0 hz1 hz2 rfl (.slice none 0 0) [] (zc4 s.acts low) A0 (zc4 s.acts low).length cap0 _ rfl rfl OwnL.nil Hsrc.out.1 rfl Hfl.out (by rw [zab]; simp; omega) (by simp; omega) HSz1.out ?_; intro v' w2 ho2 hg2)
 have HO2 : Hid (OwnL strR 9 (w.heap.size + 1) w2 v' (zc4 s.acts low)) := q_ (by simpa using ho2)
 have HX2 : Hid (Ext w w2) := q_ (zas HX1.out hg2 fun b e => by cases e)
 have HB2 := q_ ((hg2.block _ (zad HB1.out) (fun e => by cases e)).trans HB1.out)
 clear ho2 hg2 HX1 HB1 HSz1 Hsrc Hfl HV0
 go_wp2_with fail
 go_loopw [9, 10] (fun v' i' wr => ∃ (R : List ByteArray) (i : Nat), i ≤ R.length ∧ i' = .int .i64 i ∧ Hid (OwnL strR 9 (w.heap.size + 1) wr v' R) ∧ Hid (LeadOk s.acts low R) ∧ Hid (LeadC s.acts R i) ∧ Hid (wr.heap[w.heap.size]? = some (.cells #[.slice A1 s.types.length c1, .slice A2 s.acts.length c2] 25 (0, 0))) ∧ Hid (Ext w wr)) (fun _ i' _ => 110 - (intOf i').toNat)
 case atStart => exact ⟨zc4 s.acts low, 0, Nat.zero_le _, rfl, HO2, q_ LeadOk.start, q_ fun _ _ h => by omega, HB2, HX2⟩
 case round =>
  clear HO2 HB2 HX2
  obtain ⟨R, i, hi, rfl, HO, HR, HC, HB, HX⟩ := hrel
  have hRl := HR.out.len H10.out HI10.out
  have hLIM : R.length ≤ LIM := by rw [zak]; omega
  obtain ⟨A3, c3, hsh⟩ := HO.out.shape
  obtain ⟨_, _, hc3, hc3'⟩ : ∃ _ : Unit, True ∧ R.length ≤ c3 ∧ c3 ≤ 9223372036854775807 := by
   obtain ⟨A', c', e, ⟨_, h2, h3⟩, _⟩ := HO.out.rows hLIM
   rw [hsh] at e
   injection e with e1 e2 e3
   subst e3
   rw [zab] at h3
   exact ⟨(), trivial, h2, h3⟩
  subst hsh
  have HLim := q_ hLIM
  clear hLIM
  by_cases hlt : i < R.length
  ·obtain ⟨r, hr⟩ : ∃ r, R[i]? = some r := ⟨_, List.getElem?_eq_getElem hlt⟩
   obtain ⟨b, o, cs, rfl, hca, rfl, hfr⟩ := HO.out.thing HLim.out hr
   have k0 := zaa (str_at hca)
   have f0 := zaa (show wr.cell? ⟨w.heap.size, 0, none⟩ = some (.slice A1 s.types.length c1) from cell_of_row _ _ 0 _ _ _ HB.out)
   have f1 := zaa (show wr.cell? ⟨w.heap.size, 1, none⟩ = some (.slice A2 s.acts.length c2) from cell_of_row _ _ 1 _ _ _ HB.out)
   obtain ⟨v1, hv1, hn1⟩ := HN.out r
   have hnl := nextA_len HI10.out r
   obtain ⟨Ln, hLn⟩ : ∃ Ln, zc4 s.acts r = Ln := ⟨_, rfl⟩
   rw [hLn] at hv1 hnl
   obtain ⟨An, capn, rfl, ⟨_, n1, n2⟩, hnr⟩ := id hv1
   rw [zab] at n2
   have HLn := q_ hLn
   have HNr := q_ hnr
   have KN : Hid (∀ X, Ext wr X → Calls Tryz.prog 46 #[.agg #[.slice A1 s.types.length c1, .slice A2 s.acts.length c2], .bool true, .string r] X fun e w' => e = .returned (.slice An Ln.length capn) ∧ Ext X w') := q_ fun X hX => hn1 X (HX.out.trans hX)
   have Hr := q_ hr
   have Hlt := q_ hlt
   clear hr hca hfr hv1 hn1 hLn hnr
   go_wp2_with fail
   refine zae (by kernel_rfl) (by kernel_rfl) ?_
   iterate 6 (go_big_quiet_step (fail))
   go_big_quiet_step ((go_at_call 46; exact zan KN.out _ _))
   iterate 1 (go_big_quiet_step (fail))
   refine wpQuiet_nil ?_
   intro w5 hw5
   have HX5 := q_ (HX.out.trans hw5)
   have HO5 := q_ (HO.out.ext hw5)
   have HB5 := q_ ((hw5.block _ (zad HB.out)).trans HB.out)
   clear hw5 k0 f0 f1 KN
   go_wp2_with fail
   go_loopw [9, 12] (fun v' k' wr => ∃ (R2 : List ByteArray) (k : Nat), k ≤ Ln.length ∧ k' = .int .i64 k ∧ i < R2.length ∧ Hid (OwnL strR 9 (w.heap.size + 1) wr v' R2) ∧ Hid (LeadOk s.acts low R2) ∧ Hid (LeadC s.acts R2 i) ∧ Hid (R2[i]? = some r) ∧ Hid (LeadD Ln R2 k) ∧ Hid (wr.heap[w.heap.size]? = some (.cells #[.slice A1 s.types.length c1, .slice A2 s.acts.length c2] 25 (0, 0))) ∧ Hid (Ext w wr)) (fun _ k' _ => Ln.length - (intOf k').toNat)
   case atStart => exact ⟨R, 0, Nat.zero_le _, rfl, Hlt.out, HO5, HR, HC, Hr, q_ fun _ _ h => by omega, HB5, HX5⟩
   case round =>
    clear HO5 HR HC Hr HB5 HX5 HO HB HX HLim
    obtain ⟨R2, k, hk, rfl, hi2, HO, HR, HC, Hr, HD, HB, HX⟩ := hrel
    have hRl2 := HR.out.len H10.out HI10.out
    have hLIM2 : R2.length ≤ LIM := by rw [zak]; omega
    obtain ⟨A4, c4, hsh⟩ := HO.out.shape
    obtain ⟨_, _, hd3, hd3'⟩ : ∃ _ : Unit, True ∧ R2.length ≤ c4 ∧ c4 ≤ 9223372036854775807 := by
     obtain ⟨A', c', e, ⟨_, h2, h3⟩, _⟩ := HO.out.rows hLIM2
     rw [hsh] at e
     injection e with e1 e2 e3
     subst e3
     rw [zab] at h3
     exact ⟨(), trivial, h2, h3⟩
    subst hsh
    have HLim2 := q_ hLIM2
    clear hLIM2
    by_cases hkt : k < Ln.length
    ·obtain ⟨pb, po, rfl, hSp, hprow⟩ := HNr.out (by omega)
     obtain ⟨p, hp⟩ : ∃ p, Ln[k]? = some p := ⟨_, List.getElem?_eq_getElem hkt⟩
     obtain ⟨hpc, hfp⟩ := str_cell hprow hp
     have k0 : wr.cell? ⟨pb, po + k, none⟩ = some (.string p) := HX.out.cell hpc
     have Hp := q_ hp
     have Hfp := q_ hfp
     have Hkt := q_ hkt
     have HPn : Hid (p ∈ zc4 s.acts r) := q_ (by rw [HLn.out]; exact List.mem_of_getElem? hp)
     have hh := has_ok12 _ R2 _ p wr (HO.out.rows HLim2.out)
     obtain ⟨tb, htb⟩ : ∃ tb, (R2.any fun z => decide (z = p)) = tb := ⟨_, rfl⟩
     rw [htb] at hh
     have HH := q_ hh
     have HTb := q_ htb
     clear hp hpc hprow hfp htb hSp hh
     go_wp2_with fail
     refine HH.out.mono ?_
     rintro e w' ⟨rfl, rfl⟩
     cases tb with
     | true =>
      have hm : p ∈ R2 := (any_at HTb.out).1 rfl
      have Hm := q_ hm
      clear hm k0
      go_wp2_with fail
      go_roundw
      case rel => exact ⟨R2, k + 1, by have := Hkt.out; omega, by go_num, hi2, HO, HR, HC, Hr, q_ (HD.out.next Hp.out Hm.out), HB, HX⟩
      case measure => have := Hkt.out; simp [intOf]; omega
     | false =>
      have hm : p ∉ R2 := (any_at HTb.out).2 rfl
      have Hm := q_ hm
      have hsz : w.heap.size + 1 ≤ wr.heap.size := zad HB.out
      have HSz := q_ hsz
      have hHp : strR.At (fun b => b < wr.heap.size ∧ Value.ownBlock (.slice A4 R2.length c4) ≠ some b) wr p [.string p] := ⟨rfl, Hfp.out⟩
      have HHp := q_ hHp
      clear hsz hHp hm
      go_wp2_with (at_builtin; refine zbh rfl (.tmp 45) (.tmp 50) 36 rfl strR (w.heap.size + 1) 9 i0 _ 16 Tryz.underlying36 hi0 hz0 hz1 hz2 rfl (.slice A4 R2.length c4) R2 wr 9 p [.string p] rfl rfl HO.out HHp.out (by rw [zab]; omega) (by omega) HSz.out ?_; intro v' w5 ho5 hg5)
      have HR5 := q_ (HR.out.push Hm.out (List.mem_of_getElem? Hr.out) HPn.out)
      have HO5 := q_ ho5
      have HB5 := q_ ((hg5.block _ (zad HB.out) (fun e => by have := (HO.out.lt _ e.symm).1; omega)).trans HB.out)
      have HX5 : Hid (Ext w w5) := q_ (zas HX.out hg5 fun b e => by have := (HO.out.lt _ e).1; omega)
      have Hr5 : Hid ((R2 ++ [p])[i]? = some r) := q_ (by rw [List.getElem?_append_left hi2]; exact Hr.out)
      clear ho5 hg5 k0
      go_wp2_with fail
      go_roundw
      case rel => exact ⟨R2 ++ [p], k + 1, by have := Hkt.out; omega, by go_num, by simp; omega, HO5, HR5, q_ (HC.out.push (by omega) p), Hr5, q_ ((HD.out.push p).next Hp.out (by simp)), HB5, HX5⟩
      case measure => have := Hkt.out; simp [intOf]; omega
    ·obtain rfl : k = Ln.length := by omega
     go_wp2_with fail
     go_roundw
     case rel => exact ⟨R2, i + 1, by omega, by go_num, HO, HR, q_ (HC.out.next Hr.out (by rw [HLn.out]; exact HD.out.all)), HB, HX⟩
     case measure => simp [intOf]; omega
  ·obtain rfl : i = R.length := by omega
   have hh := has_ok12 _ R _ high wr (HO.out.rows HLim.out)
   obtain ⟨tb, htb⟩ : ∃ tb, (R.any fun z => decide (z = high)) = tb := ⟨_, rfl⟩
   rw [htb] at hh
   have HH := q_ hh
   have hres := HLB.out tb (fun h => HR.out.2 high ((any_at htb).1 h)) (fun h => HR.out.no HC.out ((any_at htb).2 h))
   have HRes := q_ hres
   clear hh htb hres
   go_wp2_with fail
   refine HH.out.mono ?_
   rintro e w' ⟨rfl, rfl⟩
   go_wp2_with fail
   go_ret
   exact ⟨zal HRes.out.symm, HX.out⟩
end Go.Proofs.YtbkaffhbhimglaaGreat
