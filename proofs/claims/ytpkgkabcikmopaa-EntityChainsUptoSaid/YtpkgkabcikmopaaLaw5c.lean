/-
  The walk of layer 5's law EntityChains: it answers true. The conditions: none.
-/
import Derived.Test.YtpkgkabcikmopaaChain
namespace Go.Proofs.Ytpkgkabcikmopaa
open Go.RowKit

set_option maxRecDepth 100000 in
set_option maxHeartbeats 3200000 in
theorem entityChains_walk (n t : Nat) (close missing : Bool) (hn : n ≤ 255) (ht : t ≤ 255) (w : World) :
    Calls Try.prog 14 #[.int .u8 n, .bool close, .bool missing, .int .u8 t] w fun e w' => e = .returned (.bool true) ∧ Ext w w' := by
  go_enter Try.func14, Try.ntmps14
  go_wp2_with fail
  refine (awake5_ok _).mono ?_
  rintro e w1 ⟨rfl, hx1⟩
  have HX1 := Lib.hid hx1
  clear hx1
  go_wp2_with fail
  obtain ⟨k, hk⟩ : ∃ k : Nat, k = 1 + n % 12 := ⟨_, rfl⟩
  have ek : (1 : Int) + (n : Int) % 12 = (k : Int) := by omega
  rw [ek]
  have hk1 : 1 ≤ k := by omega
  have hk12 : k ≤ 12 := by omega
  clear ek hk
  obtain ⟨i0, hi, hz0, hz1, hz2⟩ := info_parts Try.info60
  go_loopw [11, 12] (fun v i wr => ∃ j : Nat, j ≤ k ∧ i = .int .i64 j ∧ Hid (Ext w1 wr) ∧ Hid (∃ pvs, Chain w1.heap.size wr v ((List.range j).map (entN k false false)) pvs)) (fun _ i _ => k - (intOf i).toNat)
  case atStart => exact ⟨0, Nat.zero_le _, rfl, Lib.hid (Ext.refl _), Lib.hid ⟨[], Chain.nil _ _⟩⟩
  case round =>
    obtain ⟨j, hj, rfl, HXr, HC⟩ := hrel
    by_cases hlt : j < k
    · obtain ⟨pvs, hch⟩ := HC.out
      have HCh := Lib.hid hch
      obtain ⟨A11, c11, e11⟩ := own_shape hch.row
      have hlj : ((List.range j).map (entN k false false)).length = j := by simp
      clear hch HC
      generalize hes : (List.range j).map (entN k false false) = es at *
      have Hes := Lib.hid hes
      have Hlj := Lib.hid hlj
      have hle : es.length ≤ 12 := by omega
      clear hes hlj
      subst e11
      by_cases hlast : j + 1 < k
      · have HLast := Lib.hid hlast
        go_wp2_with (at_builtin; refine wpList_append_at rfl (.tmp 49) (.tmp 51) 57 rfl w1.heap.size 60 i0 _ 11 176 Try.underlying57 hi hz0 hz1 hz2 rfl (by decide) (.slice A11 es.length c11) es.length (chainCells es pvs) rfl (ownsRow_ext HCh.out.row ((((Ext.refl wr).alloc _).alloc _).alloc _)) (wr.heap.size + 1 + 1) 0 1 1 (entCells (uN j) (.slice (some ⟨wr.heap.size + 1, 0, none⟩) 1 1) recC) rfl rfl ?q1 ?q2 ?q3 ?q4 ?q5 ?_)
        case q1 => exact cellsAt_new _ _ (by simp)
        case q2 => simp [entCells, recC, Value.oneCell']
        case q3 => rw [maxLen_eq]; omega
        case q4 => omega
        case q5 => have := HXr.out.size; simp; omega
        intro v' w2 hown' hgrow hblk
        have hW := heap2 wr (.cells (entCells (uN j) (.slice (some ⟨wr.heap.size + 1, 0, none⟩) 1 1) recC).toArray 60) (.cells [.string (uN (j + 1)).1, .string (uN (j + 1)).2].toArray 23)
        obtain ⟨m0, m1, msz, mx⟩ := hW
        have hnew := HCh.out.push (e := ⟨uN j, [uN (j + 1)], recV⟩) (pv := .slice (some ⟨wr.heap.size + 1, 0, none⟩) 1 1) mx ((Ext.refl _).alloc _) ⟨uN_fit (by omega), rfl, by simp⟩ (own_new m1 (by have := HXr.out.size; omega) rfl (by omega)) (.single ⟨rfl, uN_fit (by omega)⟩) (fun b hb => by simp only [Value.ownBlock] at hb; injection hb with hb; omega) hown' hgrow
        rw [← entN_mid HLast.out, ← Hes.out, ← List.map_singleton, ← List.map_append, ← List.range_succ] at hnew
        have hext : Ext w1 w2 := ext_apart (HXr.out.trans (mx.trans ((Ext.refl _).alloc _))) hgrow fun b hb => (HCh.out.row.lt b hb).1
        have HN := Lib.hid hnew
        have HE := Lib.hid hext
        clear hown' hgrow hblk m0 m1 msz mx hnew hext
        go_wp2_with fail
        go_roundw
        case rel => exact ⟨j + 1, by omega, by go_num, Lib.hid HE.out, Lib.hid ⟨_, HN.out⟩⟩
        case measure => simp [intOf]; omega
      · have HLast := Lib.hid hlast
        go_wp2_with (at_builtin; refine wpList_append_at rfl (.tmp 49) (.tmp 51) 57 rfl w1.heap.size 60 i0 _ 11 176 Try.underlying57 hi hz0 hz1 hz2 rfl (by decide) (.slice A11 es.length c11) es.length (chainCells es pvs) rfl (ownsRow_ext HCh.out.row (((Ext.refl wr).alloc _).alloc _)) (wr.heap.size + 1) 0 1 1 (entCells (uN j) (.slice none 0 0) recC) rfl rfl ?q1 ?q2 ?q3 ?q4 ?q5 ?_)
        case q1 => exact cellsAt_new _ _ (by simp)
        case q2 => simp [entCells, recC, Value.oneCell']
        case q3 => rw [maxLen_eq]; omega
        case q4 => omega
        case q5 => have := HXr.out.size; simp; omega
        intro v' w2 hown' hgrow hblk
        have mx := (Ext.refl wr).alloc (.cells (entCells (uN j) (.slice none 0 0) recC).toArray 60)
        have hnew := HCh.out.push (e := ⟨uN j, [], recV⟩) (pv := .slice none 0 0) mx ((Ext.refl _).alloc _) ⟨uN_fit (by omega), rfl, by simp⟩ (World.ownsRow_nil _ _ _ _) rfl (fun b hb => by cases hb) hown' hgrow
        rw [← entN_end HLast.out, ← Hes.out, ← List.map_singleton, ← List.map_append, ← List.range_succ] at hnew
        have hext : Ext w1 w2 := ext_apart (HXr.out.trans (mx.trans ((Ext.refl _).alloc _))) hgrow fun b hb => (HCh.out.row.lt b hb).1
        have HN := Lib.hid hnew
        have HE := Lib.hid hext
        clear hown' hgrow hblk mx hnew hext
        go_wp2_with fail
        go_roundw
        case rel => exact ⟨j + 1, by omega, by go_num, Lib.hid HE.out, Lib.hid ⟨_, HN.out⟩⟩
        case measure => simp [intOf]; omega
    · have hjk : j = k := by omega
      subst hjk
      obtain ⟨pvs, hch⟩ := HC.out
      have hch : Chain w1.heap.size wr u11 (esN j false false) pvs := hch
      have hlj := esN_length j false false
      obtain ⟨g, c11, e11, hgb, hnc, hcm, _⟩ := own_cells hch.row (by omega)
      rw [hlj] at e11 hnc
      have HCh := Lib.hid hch
      subst e11
      have Hlj := Lib.hid hlj
      rw [maxLen_eq] at hcm
      have ej : (j : Int) - 1 = ((j - 1 : Nat) : Int) := by omega
      have ej2 : j - 1 < j := by omega
      have hle : entN j false false (j - 1) = ⟨uN (j - 1), [], recV⟩ := entN_end (by omega)
      have hget : (esN j false false)[j - 1]? = some ⟨uN (j - 1), [], recV⟩ := by rw [esN_get (by omega), hle]
      obtain ⟨pl, hpl⟩ : ∃ pl, pvs[j - 1]? = some pl := ⟨_, List.getElem?_eq_getElem (by rw [HCh.out.len, Hlj.out]; omega)⟩
      obtain ⟨k1, k2, k3⟩ := HCh.out.cell hget hpl
      have Hpl := Lib.hid hpl
      have Hget := Lib.hid hget
      clear hch HC hlj hj hlt hle hget hpl
      cases close with
      | true =>
        go_upto_region 15 with (fail)
        have hch3 : Chain w1.heap.size ((wr.setCell ⟨g, (j - 1) * 11 + 2, none⟩ (.slice (some ⟨wr.heap.size, 0, none⟩) 1 1)).alloc (.cells #[.string ⟨#[85]⟩, .string ⟨#[97]⟩] 23)) (.slice (some ⟨g, 0, none⟩) j c11) (esN j true false) (pvs.set (j - 1) (.slice (some ⟨wr.heap.size, 0, none⟩) 1 1)) := by
          have hh := HCh.out.write (w' := wr.alloc (.cells [.string tU, .string tA].toArray 23)) Hget.out Hpl.out (GrownBy.of_ext none ((Ext.refl wr).alloc _)) (.inl rfl) (pv' := .slice (some ⟨wr.heap.size, 0, none⟩) 1 1) (ps := [uA]) (by simp) (own_new (heap_alloc_new _ _) (by have := HXr.out.size; omega) rfl (by omega)) (.single ⟨rfl, fitA⟩) (fun b hb => by simp only [Value.ownBlock] at hb; injection hb with hb; exact .inr (by omega))
          rw [esN_close hk1, World.setCell_alloc_past _ _ _ _ k3] at hh
          exact hh
        have hx3 : Ext w1 ((wr.setCell ⟨g, (j - 1) * 11 + 2, none⟩ (.slice (some ⟨wr.heap.size, 0, none⟩) 1 1)).alloc (.cells #[.string ⟨#[85]⟩, .string ⟨#[97]⟩] 23)) := (ext_apart HXr.out (GrownBy.setCell wr g ((j - 1) * 11 + 2) _) fun b hb => by injection hb with hb; omega).alloc _
        skip
        generalize hW3 : (wr.setCell ⟨g, (j - 1) * 11 + 2, none⟩ (.slice (some ⟨wr.heap.size, 0, none⟩) 1 1)).alloc (.cells #[.string ⟨#[85]⟩, .string ⟨#[97]⟩] 23) = W3 at hch3 hx3 ⊢
        generalize hqv : pvs.set (j - 1) (.slice (some ⟨wr.heap.size, 0, none⟩) 1 1) = qvs at hch3
        have HC3 := Lib.hid hch3
        have HX3 := Lib.hid hx3
        clear hch3 hx3 hW3 hqv k1 k2 k3 Hpl Hget HCh HXr
        cases missing with
        | true =>
          have hget : (esN j true false)[0]? = some (entN j true false 0) := esN_get hk1
          obtain ⟨p0, hp0⟩ : ∃ p0, qvs[0]? = some p0 := ⟨_, List.getElem?_eq_getElem (by rw [HC3.out.len, esN_length]; omega)⟩
          obtain ⟨m1, m2, m3⟩ := HC3.out.cell hget hp0
          rw [show 0 * 11 + 2 = 2 from rfl] at m1 m2
          obtain ⟨ys, o1, o2⟩ := HC3.out.pars 0 _ p0 hget hp0
          obtain ⟨A0, c0, e0⟩ := own_shape o1
          have hps : (entN j true false 0).ps.length ≤ 1 := by
            show (psN j true false 0).length ≤ 1
            unfold psN
            by_cases h : 0 + 1 < j <;> simp [h]
          generalize hn0 : (entN j true false 0).ps.length = n0 at o1 e0 hps
          subst e0
          have O1 := Lib.hid o1
          have O2 := Lib.hid o2
          have Hp0 := Lib.hid hp0
          have Hget0 := Lib.hid hget
          have Hn0 := Lib.hid hn0
          clear o1 o2 hp0 hget hn0
          obtain ⟨iu, hu, uz0, uz1, uz2⟩ := info_parts Try.info23
          go_wp2_with (at_builtin; refine wpList_append_at rfl (.tmp 66) (.tmp 68) 58 rfl w1.heap.size 23 iu _ 2 32 Try.underlying58 hu uz0 uz1 uz2 rfl (by decide) (.slice A0 n0 c0) n0 ys rfl (ownsRow_ext O1.out ((Ext.refl W3).alloc _)) W3.heap.size 0 1 1 [.string tV, .string empty] rfl rfl ?q1 ?q2 ?q3 ?q4 ?q5 ?_)
          case q1 => exact cellsAt_new _ _ (by simp)
          case q2 => simp [Value.oneCell']
          case q3 => rw [maxLen_eq]; omega
          case q4 => omega
          case q5 => have := HX3.out.size; simp; omega
          intro v' w2 hown' hgrow hblk
          have hg3 : GrownBy W3 w2 (Value.slice A0 n0 c0).ownBlock := (GrownBy.of_ext _ ((Ext.refl W3).alloc _)).trans hgrow
          have hc4 := HC3.out.cell' Hget0.out Hp0.out hg3
          obtain ⟨n1, n2, n3⟩ := hc4
          rw [show 0 * 11 + 2 = 2 from rfl] at n1 n2
          obtain ⟨A1, c1, e1⟩ := own_shape hown'
          have hch4 : Chain w1.heap.size (w2.setCell ⟨g, 2, none⟩ v') (.slice (some ⟨g, 0, none⟩) j c11) (esN j true true) (qvs.set 0 v') := by
            have hh := HC3.out.write (w' := w2) Hget0.out Hp0.out hg3 (.inr rfl) (pv' := v') (ps := psN j true false 0 ++ [(tV, empty)]) (by have := Hn0.out; change (psN j true false 0).length = n0 at this; simp; omega) (own_any hown' (by have := Hn0.out; change (psN j true false 0).length = n0 at this; simp; omega) rfl) ((uidFlat_any O2.out).append (.single ⟨rfl, ⟨by rw [maxLen_eq]; decide, by rw [maxLen_eq]; decide⟩⟩)) (fun b hb => hblk.elim (fun h => .inl (h ▸ hb)) fun h => .inr (by rw [h] at hb; injection hb with hb; rw [← hb]; exact Nat.le_succ _))
            rw [esN_missing] at hh
            exact hh
          have hx4 : Ext w1 (w2.setCell ⟨g, 2, none⟩ v') := ext_apart (ext_apart HX3.out hg3 fun b hb => (O1.out.lt b hb).1) (GrownBy.setCell w2 g 2 _) fun b hb => by injection hb with hb; omega
          subst e1
          have HC4 := Lib.hid hch4
          have HX4 := Lib.hid hx4
          clear hch4 hx4 hg3 hown' hgrow hblk
          go_upto_region 17 with (fail)
          skip
          generalize hW4 : w2.setCell ⟨g, 2, none⟩ (.slice A1 (n0 + 1) c1) = WX at HC4 HX4 ⊢
          generalize hqv : qvs.set 0 (.slice A1 (n0 + 1) c1) = qxs at HC4
          have HCX := HC4
          have HXX := HX4
          clear HC4 HX4 HC3 HX3 hW4 hqv n1 n2 n3 m1 m2 m3 O1 O2 Hp0 Hget0 Hn0

          obtain ⟨a, ha⟩ : ∃ a : Nat, a = t % j := ⟨_, rfl⟩
          have haj : a < j := by rw [ha]; exact Nat.mod_lt _ (by omega)
          have ea : (t : Int) % (j : Int) = (a : Int) := by rw [ha]; exact (Int.natCast_emod t j).symm
          have hac : a < c11 := by omega
          obtain ⟨hcells, hcl⟩ := HCX.out.base_row (by omega)
          have HOne := Lib.hid HCX.out.flat.one
          have HCl := Lib.hid hcl
          have HCs := Lib.hid hcells
          have HgX := Lib.hid (HCX.out.row.lt g rfl).2
          have Hea := Lib.hid ea
          clear hcl hcells ha
          go_wp2_with (at_builtin; refine wpList_append_at rfl (.tmp 76) (.tmp 79) 57 rfl WX.heap.size 60 i0 _ 11 176 Try.underlying57 hi hz0 hz1 hz2 rfl (by decide) (.slice none 0 0) 0 [] rfl (World.ownsRow_nil _ _ _ _) g (a * 11) (j - a) (c11 - a) ((chainCells (esN j true true) qxs).drop (a * 11)) rfl ?q1 ?q2 ?q3 ?q4 ?q5 ?q6 ?_)
          case q1 => rw [List.length_drop, HCl.out, Nat.sub_mul]
          case q2 => exact fun i u hi => by have := HCs.out (a * 11 + i) u (by rwa [List.getElem?_drop] at hi); rwa [show 0 + (a * 11 + i) = a * 11 + i by omega] at this
          case q3 => exact fun u hu => HOne.out u (List.mem_of_mem_drop hu)
          case q4 => rw [maxLen_eq]; omega
          case q5 => omega
          case q6 => omega
          intro v1 w2 hown1 hgr1 _
          have hx2 : Ext WX w2 := ext_apart (Ext.refl _) hgr1 fun b hb => by cases hb
          obtain ⟨A1, cp1, e1⟩ := own_shape hown1
          subst e1
          have HO1 := Lib.hid hown1
          have HX2 := Lib.hid hx2
          clear hown1 hgr1 hx2
          go_wp2_with (at_builtin; refine wpList_append_at rfl (.tmp 81) (.tmp 84) 57 rfl WX.heap.size 60 i0 _ 11 176 Try.underlying57 hi hz0 hz1 hz2 rfl (by decide) (.slice A1 (j - a) cp1) (j - a) ((chainCells (esN j true true) qxs).drop (a * 11)) rfl HO1.out g 0 a c11 ((chainCells (esN j true true) qxs).take (a * 11)) rfl ?q1 ?q2 ?q3 ?q4 ?q5 ?q6 ?_)
          case q1 => rw [List.length_take, HCl.out]; omega
          case q2 => exact (HCs.out.alike (S := fun b => b < WX.heap.size) HgX.out (Alike.of_ext HX2.out fun _ h => h)).take _
          case q3 => exact fun u hu => HOne.out u (List.mem_of_mem_take hu)
          case q4 => rw [maxLen_eq]; omega
          case q5 => omega
          case q6 => exact HX2.out.size
          intro v2 w3 hown2 hgr2 _
          have hx3 : Ext WX w3 := ext_apart HX2.out hgr2 fun b hb => (HO1.out.lt b hb).1
          rw [show j - a + a = j by omega] at hown2
          have hrows := turn_rows HCX.out hx3 (by rw [esN_length]; omega) (own_any hown2 (esN_length _ _ _).symm rfl)
          obtain ⟨A2, cp2, e2⟩ := own_shape hown2
          subst e2
          have hlenT : (turned a (esN j true true)).length = j := by rw [(turned_perm a _).length_eq, esN_length]
          have hp := turned_perm a (esN j true true)
          have HR := Lib.hid hrows
          have HX3 := Lib.hid (HXX.out.trans hx3)
          have HP := Lib.hid hp
          have HLT := Lib.hid hlenT
          have Hsm := Lib.hid (turned_small (j := j) (a := a) (c := true) (m := true))
          clear hown2 hgr2 hx3 hrows hp hlenT HO1 HX2 HCs HCl HOne HgX
          go_wp2_with fail
          refine (canE_ok (fun b => b < w3.heap.size) (turned a (esN j true true)) _ w3 (fun _ h => h) HR.out (by rw [HLT.out]; omega) Hsm.out.1 Hsm.out.2).mono ?_

          rw [canonE_missing hk12 hk1 HP.out]
          rintro e w4 ⟨v, rfl, -, hx4⟩

          have HX4 := Lib.hid hx4
          clear hx4
          go_wp2_with fail
          skip
          refine (round_ok (fun b => b < w3.heap.size) (turned a (esN j true true)) _ w4 (fun b h => Nat.lt_of_lt_of_le h HX4.out.size) (HR.out.alike (Alike.of_ext HX4.out fun _ h => h)) (by rw [HLT.out]; omega) Hsm.out.1 (nodup_m hk12 HP.out)).mono ?_
          rintro e w5 ⟨r, rfl, hr, hx5⟩
          rw [rounded_m hk12 hk1 HP.out] at hr
          obtain rfl : r = true := by cases r <;> simp_all
          have HX5 := Lib.hid hx5
          clear hx5 hr
          go_wp2_with fail
          refine bodyPost_ret (results_tmp rfl _ _ _) rfl ?_
          exact ⟨rfl, HX1.out.trans (HX3.out.trans (HX4.out.trans HX5.out))⟩
        | false =>
          have HCX := HC3
          have HXX := HX3
          clear HC3 HX3

          obtain ⟨a, ha⟩ : ∃ a : Nat, a = t % j := ⟨_, rfl⟩
          have haj : a < j := by rw [ha]; exact Nat.mod_lt _ (by omega)
          have ea : (t : Int) % (j : Int) = (a : Int) := by rw [ha]; exact (Int.natCast_emod t j).symm
          have hac : a < c11 := by omega
          obtain ⟨hcells, hcl⟩ := HCX.out.base_row (by omega)
          have HOne := Lib.hid HCX.out.flat.one
          have HCl := Lib.hid hcl
          have HCs := Lib.hid hcells
          have HgX := Lib.hid (HCX.out.row.lt g rfl).2
          have Hea := Lib.hid ea
          clear hcl hcells ha
          go_wp2_with (at_builtin; refine wpList_append_at rfl (.tmp 76) (.tmp 79) 57 rfl W3.heap.size 60 i0 _ 11 176 Try.underlying57 hi hz0 hz1 hz2 rfl (by decide) (.slice none 0 0) 0 [] rfl (World.ownsRow_nil _ _ _ _) g (a * 11) (j - a) (c11 - a) ((chainCells (esN j true false) qvs).drop (a * 11)) rfl ?q1 ?q2 ?q3 ?q4 ?q5 ?q6 ?_)
          case q1 => rw [List.length_drop, HCl.out, Nat.sub_mul]
          case q2 => exact fun i u hi => by have := HCs.out (a * 11 + i) u (by rwa [List.getElem?_drop] at hi); rwa [show 0 + (a * 11 + i) = a * 11 + i by omega] at this
          case q3 => exact fun u hu => HOne.out u (List.mem_of_mem_drop hu)
          case q4 => rw [maxLen_eq]; omega
          case q5 => omega
          case q6 => omega
          intro v1 w2 hown1 hgr1 _
          have hx2 : Ext W3 w2 := ext_apart (Ext.refl _) hgr1 fun b hb => by cases hb
          obtain ⟨A1, cp1, e1⟩ := own_shape hown1
          subst e1
          have HO1 := Lib.hid hown1
          have HX2 := Lib.hid hx2
          clear hown1 hgr1 hx2
          go_wp2_with (at_builtin; refine wpList_append_at rfl (.tmp 81) (.tmp 84) 57 rfl W3.heap.size 60 i0 _ 11 176 Try.underlying57 hi hz0 hz1 hz2 rfl (by decide) (.slice A1 (j - a) cp1) (j - a) ((chainCells (esN j true false) qvs).drop (a * 11)) rfl HO1.out g 0 a c11 ((chainCells (esN j true false) qvs).take (a * 11)) rfl ?q1 ?q2 ?q3 ?q4 ?q5 ?q6 ?_)
          case q1 => rw [List.length_take, HCl.out]; omega
          case q2 => exact (HCs.out.alike (S := fun b => b < W3.heap.size) HgX.out (Alike.of_ext HX2.out fun _ h => h)).take _
          case q3 => exact fun u hu => HOne.out u (List.mem_of_mem_take hu)
          case q4 => rw [maxLen_eq]; omega
          case q5 => omega
          case q6 => exact HX2.out.size
          intro v2 w3 hown2 hgr2 _
          have hx3 : Ext W3 w3 := ext_apart HX2.out hgr2 fun b hb => (HO1.out.lt b hb).1
          rw [show j - a + a = j by omega] at hown2
          have hrows := turn_rows HCX.out hx3 (by rw [esN_length]; omega) (own_any hown2 (esN_length _ _ _).symm rfl)
          obtain ⟨A2, cp2, e2⟩ := own_shape hown2
          subst e2
          have hlenT : (turned a (esN j true false)).length = j := by rw [(turned_perm a _).length_eq, esN_length]
          have hp := turned_perm a (esN j true false)
          have HR := Lib.hid hrows
          have HX3 := Lib.hid (HXX.out.trans hx3)
          have HP := Lib.hid hp
          have HLT := Lib.hid hlenT
          have Hsm := Lib.hid (turned_small (j := j) (a := a) (c := true) (m := false))
          clear hown2 hgr2 hx3 hrows hp hlenT HO1 HX2 HCs HCl HOne HgX
          go_wp2_with fail
          refine (canE_ok (fun b => b < w3.heap.size) (turned a (esN j true false)) _ w3 (fun _ h => h) HR.out (by rw [HLT.out]; omega) Hsm.out.1 Hsm.out.2).mono ?_

          rw [canonE_closed hk12 hk1 HP.out]
          rintro e w4 ⟨v, rfl, -, hx4⟩

          have HX4 := Lib.hid hx4
          clear hx4
          go_wp2_with fail
          skip
          refine (round_ok (fun b => b < w3.heap.size) (turned a (esN j true false)) _ w4 (fun b h => Nat.lt_of_lt_of_le h HX4.out.size) (HR.out.alike (Alike.of_ext HX4.out fun _ h => h)) (by rw [HLT.out]; omega) Hsm.out.1 (nodup_m hk12 HP.out)).mono ?_
          rintro e w5 ⟨r, rfl, hr, hx5⟩
          rw [rounded_m hk12 hk1 HP.out] at hr
          obtain rfl : r = true := by cases r <;> simp_all
          have HX5 := Lib.hid hx5
          clear hx5 hr
          go_wp2_with fail
          refine bodyPost_ret (results_tmp rfl _ _ _) rfl ?_
          exact ⟨rfl, HX1.out.trans (HX3.out.trans (HX4.out.trans HX5.out))⟩
      | false =>
        go_upto_region 15 with (fail)
        clear k1 k2 k3 Hpl Hget
        skip
        cases missing with
        | true =>
          have hget : (esN j false false)[0]? = some (entN j false false 0) := esN_get hk1
          obtain ⟨p0, hp0⟩ : ∃ p0, pvs[0]? = some p0 := ⟨_, List.getElem?_eq_getElem (by rw [HCh.out.len, esN_length]; omega)⟩
          obtain ⟨m1, m2, m3⟩ := HCh.out.cell hget hp0
          rw [show 0 * 11 + 2 = 2 from rfl] at m1 m2
          obtain ⟨ys, o1, o2⟩ := HCh.out.pars 0 _ p0 hget hp0
          obtain ⟨A0, c0, e0⟩ := own_shape o1
          have hps : (entN j false false 0).ps.length ≤ 1 := by
            show (psN j false false 0).length ≤ 1
            unfold psN
            by_cases h : 0 + 1 < j <;> simp [h]
          generalize hn0 : (entN j false false 0).ps.length = n0 at o1 e0 hps
          subst e0
          have O1 := Lib.hid o1
          have O2 := Lib.hid o2
          have Hp0 := Lib.hid hp0
          have Hget0 := Lib.hid hget
          have Hn0 := Lib.hid hn0
          clear o1 o2 hp0 hget hn0
          obtain ⟨iu, hu, uz0, uz1, uz2⟩ := info_parts Try.info23
          go_wp2_with (at_builtin; refine wpList_append_at rfl (.tmp 66) (.tmp 68) 58 rfl w1.heap.size 23 iu _ 2 32 Try.underlying58 hu uz0 uz1 uz2 rfl (by decide) (.slice A0 n0 c0) n0 ys rfl (ownsRow_ext O1.out ((Ext.refl wr).alloc _)) wr.heap.size 0 1 1 [.string tV, .string empty] rfl rfl ?q1 ?q2 ?q3 ?q4 ?q5 ?_)
          case q1 => exact cellsAt_new _ _ (by simp)
          case q2 => simp [Value.oneCell']
          case q3 => rw [maxLen_eq]; omega
          case q4 => omega
          case q5 => have := HXr.out.size; simp; omega
          intro v' w2 hown' hgrow hblk
          have hg3 : GrownBy wr w2 (Value.slice A0 n0 c0).ownBlock := (GrownBy.of_ext _ ((Ext.refl wr).alloc _)).trans hgrow
          have hc4 := HCh.out.cell' Hget0.out Hp0.out hg3
          obtain ⟨n1, n2, n3⟩ := hc4
          rw [show 0 * 11 + 2 = 2 from rfl] at n1 n2
          obtain ⟨A1, c1, e1⟩ := own_shape hown'
          have hch4 : Chain w1.heap.size (w2.setCell ⟨g, 2, none⟩ v') (.slice (some ⟨g, 0, none⟩) j c11) (esN j false true) (pvs.set 0 v') := by
            have hh := HCh.out.write (w' := w2) Hget0.out Hp0.out hg3 (.inr rfl) (pv' := v') (ps := psN j false false 0 ++ [(tV, empty)]) (by have := Hn0.out; change (psN j false false 0).length = n0 at this; simp; omega) (own_any hown' (by have := Hn0.out; change (psN j false false 0).length = n0 at this; simp; omega) rfl) ((uidFlat_any O2.out).append (.single ⟨rfl, ⟨by rw [maxLen_eq]; decide, by rw [maxLen_eq]; decide⟩⟩)) (fun b hb => hblk.elim (fun h => .inl (h ▸ hb)) fun h => .inr (by rw [h] at hb; injection hb with hb; rw [← hb]; exact Nat.le_succ _))
            rw [esN_missing] at hh
            exact hh
          have hx4 : Ext w1 (w2.setCell ⟨g, 2, none⟩ v') := ext_apart (ext_apart HXr.out hg3 fun b hb => (O1.out.lt b hb).1) (GrownBy.setCell w2 g 2 _) fun b hb => by injection hb with hb; omega
          subst e1
          have HC4 := Lib.hid hch4
          have HX4 := Lib.hid hx4
          clear hch4 hx4 hg3 hown' hgrow hblk
          go_upto_region 17 with (fail)
          skip
          generalize hW4 : w2.setCell ⟨g, 2, none⟩ (.slice A1 (n0 + 1) c1) = WX at HC4 HX4 ⊢
          generalize hqv : pvs.set 0 (.slice A1 (n0 + 1) c1) = qxs at HC4
          have HCX := HC4
          have HXX := HX4
          clear HC4 HX4 HCh HXr hW4 hqv n1 n2 n3 m1 m2 m3 O1 O2 Hp0 Hget0 Hn0

          obtain ⟨a, ha⟩ : ∃ a : Nat, a = t % j := ⟨_, rfl⟩
          have haj : a < j := by rw [ha]; exact Nat.mod_lt _ (by omega)
          have ea : (t : Int) % (j : Int) = (a : Int) := by rw [ha]; exact (Int.natCast_emod t j).symm
          have hac : a < c11 := by omega
          obtain ⟨hcells, hcl⟩ := HCX.out.base_row (by omega)
          have HOne := Lib.hid HCX.out.flat.one
          have HCl := Lib.hid hcl
          have HCs := Lib.hid hcells
          have HgX := Lib.hid (HCX.out.row.lt g rfl).2
          have Hea := Lib.hid ea
          clear hcl hcells ha
          go_wp2_with (at_builtin; refine wpList_append_at rfl (.tmp 76) (.tmp 79) 57 rfl WX.heap.size 60 i0 _ 11 176 Try.underlying57 hi hz0 hz1 hz2 rfl (by decide) (.slice none 0 0) 0 [] rfl (World.ownsRow_nil _ _ _ _) g (a * 11) (j - a) (c11 - a) ((chainCells (esN j false true) qxs).drop (a * 11)) rfl ?q1 ?q2 ?q3 ?q4 ?q5 ?q6 ?_)
          case q1 => rw [List.length_drop, HCl.out, Nat.sub_mul]
          case q2 => exact fun i u hi => by have := HCs.out (a * 11 + i) u (by rwa [List.getElem?_drop] at hi); rwa [show 0 + (a * 11 + i) = a * 11 + i by omega] at this
          case q3 => exact fun u hu => HOne.out u (List.mem_of_mem_drop hu)
          case q4 => rw [maxLen_eq]; omega
          case q5 => omega
          case q6 => omega
          intro v1 w2 hown1 hgr1 _
          have hx2 : Ext WX w2 := ext_apart (Ext.refl _) hgr1 fun b hb => by cases hb
          obtain ⟨A1, cp1, e1⟩ := own_shape hown1
          subst e1
          have HO1 := Lib.hid hown1
          have HX2 := Lib.hid hx2
          clear hown1 hgr1 hx2
          go_wp2_with (at_builtin; refine wpList_append_at rfl (.tmp 81) (.tmp 84) 57 rfl WX.heap.size 60 i0 _ 11 176 Try.underlying57 hi hz0 hz1 hz2 rfl (by decide) (.slice A1 (j - a) cp1) (j - a) ((chainCells (esN j false true) qxs).drop (a * 11)) rfl HO1.out g 0 a c11 ((chainCells (esN j false true) qxs).take (a * 11)) rfl ?q1 ?q2 ?q3 ?q4 ?q5 ?q6 ?_)
          case q1 => rw [List.length_take, HCl.out]; omega
          case q2 => exact (HCs.out.alike (S := fun b => b < WX.heap.size) HgX.out (Alike.of_ext HX2.out fun _ h => h)).take _
          case q3 => exact fun u hu => HOne.out u (List.mem_of_mem_take hu)
          case q4 => rw [maxLen_eq]; omega
          case q5 => omega
          case q6 => exact HX2.out.size
          intro v2 w3 hown2 hgr2 _
          have hx3 : Ext WX w3 := ext_apart HX2.out hgr2 fun b hb => (HO1.out.lt b hb).1
          rw [show j - a + a = j by omega] at hown2
          have hrows := turn_rows HCX.out hx3 (by rw [esN_length]; omega) (own_any hown2 (esN_length _ _ _).symm rfl)
          obtain ⟨A2, cp2, e2⟩ := own_shape hown2
          subst e2
          have hlenT : (turned a (esN j false true)).length = j := by rw [(turned_perm a _).length_eq, esN_length]
          have hp := turned_perm a (esN j false true)
          have HR := Lib.hid hrows
          have HX3 := Lib.hid (HXX.out.trans hx3)
          have HP := Lib.hid hp
          have HLT := Lib.hid hlenT
          have Hsm := Lib.hid (turned_small (j := j) (a := a) (c := false) (m := true))
          clear hown2 hgr2 hx3 hrows hp hlenT HO1 HX2 HCs HCl HOne HgX
          go_wp2_with fail
          refine (canE_ok (fun b => b < w3.heap.size) (turned a (esN j false true)) _ w3 (fun _ h => h) HR.out (by rw [HLT.out]; omega) Hsm.out.1 Hsm.out.2).mono ?_

          rw [canonE_missing hk12 hk1 HP.out]
          rintro e w4 ⟨v, rfl, -, hx4⟩

          have HX4 := Lib.hid hx4
          clear hx4
          go_wp2_with fail
          skip
          refine (round_ok (fun b => b < w3.heap.size) (turned a (esN j false true)) _ w4 (fun b h => Nat.lt_of_lt_of_le h HX4.out.size) (HR.out.alike (Alike.of_ext HX4.out fun _ h => h)) (by rw [HLT.out]; omega) Hsm.out.1 (nodup_m hk12 HP.out)).mono ?_
          rintro e w5 ⟨r, rfl, hr, hx5⟩
          rw [rounded_m hk12 hk1 HP.out] at hr
          obtain rfl : r = false := by cases r <;> simp_all
          have HX5 := Lib.hid hx5
          clear hx5 hr
          go_wp2_with fail
          refine bodyPost_ret (results_tmp rfl _ _ _) rfl ?_
          exact ⟨rfl, HX1.out.trans (HX3.out.trans (HX4.out.trans HX5.out))⟩
        | false =>
          have HCX := HCh
          have HXX := HXr
          clear HCh HXr

          obtain ⟨a, ha⟩ : ∃ a : Nat, a = t % j := ⟨_, rfl⟩
          have haj : a < j := by rw [ha]; exact Nat.mod_lt _ (by omega)
          have ea : (t : Int) % (j : Int) = (a : Int) := by rw [ha]; exact (Int.natCast_emod t j).symm
          have hac : a < c11 := by omega
          obtain ⟨hcells, hcl⟩ := HCX.out.base_row (by omega)
          have HOne := Lib.hid HCX.out.flat.one
          have HCl := Lib.hid hcl
          have HCs := Lib.hid hcells
          have HgX := Lib.hid (HCX.out.row.lt g rfl).2
          have Hea := Lib.hid ea
          clear hcl hcells ha
          go_wp2_with (at_builtin; refine wpList_append_at rfl (.tmp 76) (.tmp 79) 57 rfl wr.heap.size 60 i0 _ 11 176 Try.underlying57 hi hz0 hz1 hz2 rfl (by decide) (.slice none 0 0) 0 [] rfl (World.ownsRow_nil _ _ _ _) g (a * 11) (j - a) (c11 - a) ((chainCells (esN j false false) pvs).drop (a * 11)) rfl ?q1 ?q2 ?q3 ?q4 ?q5 ?q6 ?_)
          case q1 => rw [List.length_drop, HCl.out, Nat.sub_mul]
          case q2 => exact fun i u hi => by have := HCs.out (a * 11 + i) u (by rwa [List.getElem?_drop] at hi); rwa [show 0 + (a * 11 + i) = a * 11 + i by omega] at this
          case q3 => exact fun u hu => HOne.out u (List.mem_of_mem_drop hu)
          case q4 => rw [maxLen_eq]; omega
          case q5 => omega
          case q6 => omega
          intro v1 w2 hown1 hgr1 _
          have hx2 : Ext wr w2 := ext_apart (Ext.refl _) hgr1 fun b hb => by cases hb
          obtain ⟨A1, cp1, e1⟩ := own_shape hown1
          subst e1
          have HO1 := Lib.hid hown1
          have HX2 := Lib.hid hx2
          clear hown1 hgr1 hx2
          go_wp2_with (at_builtin; refine wpList_append_at rfl (.tmp 81) (.tmp 84) 57 rfl wr.heap.size 60 i0 _ 11 176 Try.underlying57 hi hz0 hz1 hz2 rfl (by decide) (.slice A1 (j - a) cp1) (j - a) ((chainCells (esN j false false) pvs).drop (a * 11)) rfl HO1.out g 0 a c11 ((chainCells (esN j false false) pvs).take (a * 11)) rfl ?q1 ?q2 ?q3 ?q4 ?q5 ?q6 ?_)
          case q1 => rw [List.length_take, HCl.out]; omega
          case q2 => exact (HCs.out.alike (S := fun b => b < wr.heap.size) HgX.out (Alike.of_ext HX2.out fun _ h => h)).take _
          case q3 => exact fun u hu => HOne.out u (List.mem_of_mem_take hu)
          case q4 => rw [maxLen_eq]; omega
          case q5 => omega
          case q6 => exact HX2.out.size
          intro v2 w3 hown2 hgr2 _
          have hx3 : Ext wr w3 := ext_apart HX2.out hgr2 fun b hb => (HO1.out.lt b hb).1
          rw [show j - a + a = j by omega] at hown2
          have hrows := turn_rows HCX.out hx3 (by rw [esN_length]; omega) (own_any hown2 (esN_length _ _ _).symm rfl)
          obtain ⟨A2, cp2, e2⟩ := own_shape hown2
          subst e2
          have hlenT : (turned a (esN j false false)).length = j := by rw [(turned_perm a _).length_eq, esN_length]
          have hp := turned_perm a (esN j false false)
          have HR := Lib.hid hrows
          have HX3 := Lib.hid (HXX.out.trans hx3)
          have HP := Lib.hid hp
          have HLT := Lib.hid hlenT
          have Hsm := Lib.hid (turned_small (j := j) (a := a) (c := false) (m := false))
          clear hown2 hgr2 hx3 hrows hp hlenT HO1 HX2 HCs HCl HOne HgX
          go_wp2_with fail
          refine (canE_ok (fun b => b < w3.heap.size) (turned a (esN j false false)) _ w3 (fun _ h => h) HR.out (by rw [HLT.out]; omega) Hsm.out.1 Hsm.out.2).mono ?_

          obtain ⟨q1, q2, e0, r0, q3, q4⟩ := canonE_open hk12 hk1 HP.out
          rw [q1]
          generalize (canonE (turned a (esN j false false))).1 = cl at *
          rintro e w4 ⟨v, rfl, ⟨xs, hown4, hfl4⟩, hx4⟩
          obtain ⟨g9, cp9, e9, k9⟩ := first_cell q3 hown4 hfl4
          rw [q2] at e9
          subst e9
          rw [q4, show (uN 0).2 = ⟨#[97]⟩ from cN_zero] at k9
          clear q1 q2 q3 q4 hown4 hfl4

          have HX4 := Lib.hid hx4
          clear hx4
          go_wp2_with fail
          skip
          refine (round_ok (fun b => b < w3.heap.size) (turned a (esN j false false)) _ w4 (fun b h => Nat.lt_of_lt_of_le h HX4.out.size) (HR.out.alike (Alike.of_ext HX4.out fun _ h => h)) (by rw [HLT.out]; omega) Hsm.out.1 (nodup_m hk12 HP.out)).mono ?_
          rintro e w5 ⟨r, rfl, hr, hx5⟩
          rw [rounded_m hk12 hk1 HP.out] at hr
          obtain rfl : r = false := by cases r <;> simp_all
          have HX5 := Lib.hid hx5
          clear hx5 hr
          go_wp2_with fail
          refine bodyPost_ret (results_tmp rfl _ _ _) rfl ?_
          exact ⟨rfl, HX1.out.trans (HX3.out.trans (HX4.out.trans HX5.out))⟩
theorem byte_in5 {n : Int} (h : (Lit.int .u8 n).wf = true) : 0 ≤ n ∧ n ≤ 255 := by
  simpa [Lit.wf, IntKind.min, IntKind.max, IntKind.signed, IntKind.bits] using h
theorem entityChains_int (n t : Int) (close missing : Bool) (hn : 0 ≤ n ∧ n ≤ 255) (ht : 0 ≤ t ∧ t ≤ 255) (w : World) : Calls Try.prog 14 #[.int .u8 n, .bool close, .bool missing, .int .u8 t] w fun e w' => e = .returned (.bool true) ∧ Ext w w' := by
  obtain ⟨n, rfl⟩ := Int.eq_ofNat_of_zero_le hn.1
  obtain ⟨t, rfl⟩ := Int.eq_ofNat_of_zero_le ht.1
  exact entityChains_walk n t close missing (by omega) (by omega) w
end Go.Proofs.Ytpkgkabcikmopaa
