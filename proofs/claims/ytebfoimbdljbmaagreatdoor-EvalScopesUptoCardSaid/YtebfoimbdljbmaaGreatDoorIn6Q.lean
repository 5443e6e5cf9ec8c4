/-
  The reference's answer to whether one is, or is below, another one. The conditions: the entities lie in memory as they should, are few, no name is there twice, parents are there.
-/
import Derived.Test.YtebfoimbdljbmaaGreatDoorRef6Q
namespace Go.Proofs.YtebfoimbdljbmaaGreatDoor
open Go.RowKit

/-- what is reached so far -/
structure Reach (l : List Ent) (a : Uid) (R : List Uid) : Prop where
  nodup : R.Nodup
  head : R[0]? = some a
  from' : ∀ r ∈ R, r = a ∨ UpTo l a r
def ClosedR (l : List Ent) (b : Uid) (R : List Uid) (i : Nat) : Prop := ∀ j r, j < i → R[j]? = some r → ∀ p, Above l r p → p ∈ R ∧ p ≠ b
def DoneP (x : Ent) (b : Uid) (R : List Uid) (k : Nat) : Prop := ∀ j p, j < k → x.ps[j]? = some p → p ∈ R ∧ p ≠ b
def seenB (p : Uid) (R : List Uid) : Bool := R.any fun z => decide (z = p)
theorem seenB_snoc {p z : Uid} {R : List Uid} : seenB p (R ++ [z]) = (seenB p R || decide (z = p)) := by simp [seenB]
theorem seenB_iff {p : Uid} {R : List Uid} : seenB p R = true ↔ p ∈ R := by simp [seenB]
section
variable {l : List Ent} {a b : Uid} {R : List Uid}
theorem Reach.len (h : Reach l a R) : R.length ≤ l.length + 1 := by
  have := length_le_of_subset (m := a :: l.map Ent.uid) h.nodup fun r hr => by
    rcases h.from' r hr with rfl | h1
    · simp
    · exact List.mem_cons_of_mem _ h1.names.2
  simpa using this
theorem Reach.start : Reach l a [a] := ⟨by simp, rfl, fun r hr => .inl (by simpa using hr)⟩
theorem Reach.push (h : Reach l a R) {r p : Uid} (hr : r ∈ R) (hp : Above l r p) (hn : p ∉ R) : Reach l a (R ++ [p]) := by
  refine ⟨(List.perm_append_singleton p R).nodup_iff.2 (List.nodup_cons.2 ⟨hn, h.nodup⟩), ?_, fun q hq => ?_⟩
  · have := (List.getElem?_eq_some_iff.1 h.head).1
    rw [List.getElem?_append_left this]; exact h.head
  · rcases List.mem_append.1 hq with hq | hq
    · exact h.from' q hq
    · obtain rfl : q = p := by simpa using hq
      rcases h.from' r hr with rfl | h1
      · exact .inr (.one hp)
      · exact .inr (h1.more hp)
theorem ClosedR.push {i : Nat} (h : ClosedR l b R i) (hi : i ≤ R.length) (p : Uid) : ClosedR l b (R ++ [p]) i := fun j r hj hr q hq => by
  rw [List.getElem?_append_left (by omega)] at hr
  obtain ⟨h1, h2⟩ := h j r hj hr q hq
  exact ⟨by simp [h1], h2⟩
theorem DoneP.push {x : Ent} {k : Nat} (h : DoneP x b R k) (p : Uid) : DoneP x b (R ++ [p]) k := fun j q hj hq => ⟨by simp [(h j q hj hq).1], (h j q hj hq).2⟩
theorem DoneP.next {x : Ent} {k : Nat} {p : Uid} (h : DoneP x b R k) (hp : x.ps[k]? = some p) (hm : p ∈ R) (hb : p ≠ b) : DoneP x b R (k + 1) := fun j q hj hq => by
  by_cases he : j = k
  · subst he
    rw [hp] at hq
    obtain rfl := Option.some.inj hq
    exact ⟨hm, hb⟩
  · exact h j q (by omega) hq
theorem ClosedR.next {i : Nat} {x : Ent} (hn : (l.map Ent.uid).Nodup) (h : ClosedR l b R i) (hx : x ∈ l) (hr : R[i]? = some x.uid) (hd : DoneP x b R x.ps.length) : ClosedR l b R (i + 1) := fun j r hj hjr p hp => by
  by_cases he : j = i
  · subst he
    rw [hr] at hjr
    obtain rfl := Option.some.inj hjr
    obtain ⟨e, hel, heu, hep, _⟩ := hp
    obtain rfl : e = x := byUid_eq hn hel hx (by unfold cmpE; rw [heu]; exact ordU_self _)
    obtain ⟨k, hk⟩ := List.mem_iff_getElem?.1 hep
    exact hd k p (List.getElem?_eq_some_iff.1 hk).1 hk
  · exact h j r (by omega) hjr p hp
theorem ClosedR.skip {i : Nat} {r : Uid} (h : ClosedR l b R i) (hr : R[i]? = some r) (hn : idx (l.map Ent.uid) r = none) : ClosedR l b R (i + 1) := fun j q hj hjq p hp => by
  by_cases he : j = i
  · subst he
    rw [hr] at hjq
    obtain rfl := Option.some.inj hjq
    obtain ⟨e, hel, heu, _, _⟩ := hp
    exact absurd (List.mem_map.2 ⟨e, hel, heu⟩) (idx_none.1 hn)
  · exact h j q (by omega) hjq p hp
theorem Reach.no (h : Reach l a R) (hc : ClosedR l b R R.length) : ¬ UpTo l a b := by
  have key : ∀ q, UpTo l a q → q ∈ R ∧ q ≠ b := by
    intro q hq
    have step : ∀ r p, r ∈ R → Above l r p → p ∈ R ∧ p ≠ b := fun r p hr hp => by
      obtain ⟨j, hj⟩ := List.mem_iff_getElem?.1 hr
      exact hc j r (List.getElem?_eq_some_iff.1 hj).1 hj p hp
    have ha : a ∈ R := List.mem_of_getElem? h.head
    clear hc
    generalize hs : a = s at hq
    induction hq with
    | one h1 => subst hs; exact step _ _ ha h1
    | more _ h1 ih => exact step _ _ ih.1 h1
  exact fun hb => (key b hb).2 rfl
end

theorem OwnL.one {α : Type} {R : Rep α} {T : TypeId} {base g : Nat} {W : World} {x : α} {cs : List Value} (hg : W.heap[g]? = some (.cells cs.toArray T (0, 0))) (hb : base ≤ g) (hx : R.At (fun b => b < W.heap.size ∧ b ≠ g) W x cs) : OwnL R T base W (.slice (some ⟨g, 0, none⟩) 1 1) [x] := by
  have hl := R.len hx
  have h1 : cs.length = 1 * R.size := by omega
  have h2 : cs.toArray.toList.take (1 * R.size) = cs := by rw [List.toList_toArray, List.take_of_length_le (by omega)]
  have h3 : (1 : Nat) ≤ maxLen := by rw [maxLen_eq]; omega
  exact ⟨cs, ⟨h1, .inr ⟨g, 1, cs.toArray, rfl, hb, hg, Nat.le_refl _, h3, by simpa using h1, h2⟩⟩, cs, [], by simp, R.mono hx fun b hb => ⟨hb.1, fun e => hb.2 (Option.some.inj e).symm⟩, rfl⟩
/-- a place of such a row, read -/
theorem OwnL.at' {α : Type} {R : Rep α} {T : TypeId} {base : Nat} {W : World} {A : Option Addr} {n c : Nat} {l : List α} (h : OwnL R T base W (.slice A n c) l) (hl : l.length ≤ LIM) {i : Nat} {x : α} (hx : l[i]? = some x) : ∃ b o cs, A = some ⟨b, o, none⟩ ∧ CellsAt W b (o + i * R.size) cs ∧ R.At (fun b => b < W.heap.size) W x cs := by
  obtain ⟨A', c', e, _, hr⟩ := h.rows hl
  injection e with e1 _ e3
  subst e1
  obtain ⟨b, o, rfl, _, hr⟩ := hr (by have := (List.getElem?_eq_some_iff.1 hx).1; omega)
  obtain ⟨cs, h1, h2⟩ := hr i x hx
  exact ⟨b, o, cs, rfl, h1, h2⟩

set_option maxRecDepth 100000 in
set_option maxHeartbeats 4000000 in
theorem in6_ok (S : Nat → Prop) (l : List Ent) (v : Value) (x y : Uid) (w : World) (hS : ∀ b, S b → b < w.heap.size) (hl : entR.RowsAt S w l v) (ht : Tidy l) (hx : FitU x) (hy : FitU y) :
    Calls Tryz.prog 47 #[v, valU x, valU y] w fun e w' => e = .returned (.bool (inB l x y)) ∧ Ext w w' := by
  have hl' := hl
  have h20 := ht.len
  obtain ⟨A, cap, rfl, ⟨hl0, hl1, hl2⟩, hlr⟩ := hl
  clear hl0
  rw [maxLen_eq] at hl2
  have HS := Lib.hid hS
  have HL := Lib.hid hlr
  have HL' := Lib.hid hl'
  have HTy := Lib.hid ht
  have HFx := Lib.hid hx
  have HFy := Lib.hid hy
  clear hS hlr hl' ht hx hy
  obtain ⟨i0, hi0, hz0, hz1, hz2⟩ := info_parts Tryz.info23
  obtain ⟨t1, i1⟩ := x
  obtain ⟨t2, i2⟩ := y
  unfold valU
  obtain ⟨tb, htb⟩ : ∃ tb, decide ((t1, i1) = ((t2, i2) : Uid)) = tb := ⟨_, rfl⟩
  have tq : ∀ w, (binOp .eql 23 (.agg #[.string t1, .string i1]) (.agg #[.string t2, .string i2])).run Tryz.prog w = .ok (.bool tb) w := fun w => by rw [← htb]; exact eqlU (t1, i1) (t2, i2) w
  have tq' : ∀ w, (Op.equalIn 10000 23 (.agg #[.string t1, .string i1]) (.agg #[.string t2, .string i2])).run Tryz.prog w = .ok tb w := fun w => by rw [← htb]; exact eqlU_in (t1, i1) (t2, i2) w
  have tg : ∀ (p q : Operand) w, (eqGuard .eql 23 p q (.agg #[.string t1, .string i1]) (.agg #[.string t2, .string i2])).run Tryz.prog w = .ok () w := fun p q w => guardU _ p q (t1, i1) (t2, i2) w
  have HT := Lib.hid htb
  clear htb
  go_enter Tryz.func47, Tryz.ntmps47
  cases tb with
  | true =>
    go_wp2_with fail
    go_ret
    exact ⟨by unfold inB; rw [HT.out]; rfl, ((Ext.refl w).alloc _).alloc _⟩
  | false =>
    go_wp2_with fail
    clear tq tq' tg
    obtain ⟨W0, hW0⟩ : ∃ W0, W0 = ((w.alloc (.cells #[.string t1, .string i1] 23)).alloc (.cells #[.string t2, .string i2] 23)).alloc (.cells #[.string t1, .string i1] 23) := ⟨_, rfl⟩
    have h3 := heap3 w (.cells #[.string t1, .string i1] 23) (.cells #[.string t2, .string i2] 23) (.cells #[.string t1, .string i1] 23)
    rw [← hW0] at h3 ⊢
    obtain ⟨q0, q1, q2, qs, qx⟩ := h3
    have HQ1 := Lib.hid q1
    have HQX := Lib.hid qx
    have HO0 : Hid (OwnL uidR 23 (w.heap.size + 2) W0 (.slice (some ⟨w.heap.size + 1 + 1, 0, none⟩) 1 1) [(t1, i1)]) := Lib.hid (OwnL.one (R := uidR) q2 (Nat.le_refl _) ⟨rfl, HFx.out⟩)
    clear q0 q1 q2 qs qx hW0
    go_loopw [7, 8] (fun v' i' wr => ∃ (R : List Uid) (i : Nat), i ≤ R.length ∧ i' = .int .i64 i ∧ Hid (OwnL uidR 23 (w.heap.size + 2) wr v' R) ∧ Hid (Reach l (t1, i1) R) ∧ Hid (ClosedR l (t2, i2) R i) ∧ Hid (wr.heap[w.heap.size + 1]? = some (.cells #[.string t2, .string i2] 23 (0, 0))) ∧ Hid (Ext w wr)) (fun _ i' _ => l.length + 1 - (intOf i').toNat)
    case atStart => exact ⟨[(t1, i1)], 0, Nat.zero_le _, rfl, HO0, Lib.hid Reach.start, Lib.hid fun _ _ h => by omega, HQ1, HQX⟩
    case round =>
      clear HO0 HQ1 HQX
      obtain ⟨R, i, hi, rfl, HO, HR, HC, HB, HX⟩ := hrel
      have hRl := HR.out.len
      have hLIM : R.length ≤ LIM := by rw [LIM_eq]; omega
      obtain ⟨A3, c3, hsh⟩ := HO.out.shape
      obtain ⟨_, _, hc3, hc3'⟩ : ∃ _ : Unit, True ∧ R.length ≤ c3 ∧ c3 ≤ 9223372036854775807 := by
        obtain ⟨A', c', e, ⟨_, h2, h3⟩, _⟩ := HO.out.rows hLIM
        rw [hsh] at e
        injection e with e1 e2 e3
        subst e3
        rw [maxLen_eq] at h3
        exact ⟨(), trivial, h2, h3⟩
      subst hsh
      have HLim := Lib.hid hLIM
      clear hLIM
      by_cases hlt : i < R.length
      · obtain ⟨r, hr⟩ : ∃ r, R[i]? = some r := ⟨_, List.getElem?_eq_getElem hlt⟩
        obtain ⟨b, o, cs, rfl, hca, rfl, hfr⟩ := HO.out.at' HLim.out hr
        have k0 : wr.cell? ⟨b, o + i * 2, none⟩ = some (.string r.1) := hca 0 _ rfl
        have k1 : wr.cell? ⟨b, o + i * 2 + 1, none⟩ = some (.string r.2) := hca 1 _ rfl
        have Hr := Lib.hid hr
        have HFr := Lib.hid hfr
        have Hlt := Lib.hid hlt
        clear hr hca hfr
        go_wp2_with fail
        refine (find5_ok S l _ r wr (fun b hb => Nat.lt_of_lt_of_le (HS.out b hb) HX.out.size) (HL'.out.alike (Alike.of_ext HX.out HS.out))).mono ?_
        rintro e w1 ⟨rfl, hx1⟩
        have HX1 := Lib.hid hx1
        have HO1 := Lib.hid (HO.out.ext hx1)
        have HB1 := Lib.hid ((hx1.block _ (Blk_lt HB.out)).trans HB.out)
        clear hx1 k0 k1
        cases hix : idx (l.map Ent.uid) r with
        | none =>
          have Hix := Lib.hid hix
          rw [findI_none hix]
          clear hix
          go_wp2_with fail
          go_roundw
          case rel => exact ⟨R, i + 1, by have := Hlt.out; omega, by go_num, HO1, HR, Lib.hid (HC.out.skip Hr.out Hix.out), HB1, Lib.hid (HX.out.trans HX1.out)⟩
          case measure => have := Hlt.out; simp [intOf]; omega
        | some a =>
          have Hix := Lib.hid hix
          rw [findI_some hix]
          have hal : a < l.length := by have := idx_lt hix; simpa using this
          clear hix
          obtain ⟨x, hx⟩ : ∃ x, l[a]? = some x := ⟨_, List.getElem?_eq_getElem hal⟩
          have hxr : x.uid = r := by
            have h := idx_get Hix.out
            rw [List.getElem?_map, hx] at h
            exact Option.some.inj h
          obtain ⟨lb, lo, rfl, hSb, hrow⟩ := HL.out (by omega)
          obtain ⟨xcs, hxc, hxa⟩ := hrow a x hx
          obtain ⟨_, _, _, _, ⟨pv, k2, hpv⟩, _⟩ := ent_cells hxc hxa
          obtain ⟨A1, c1, rfl, ⟨p0, p1, p2⟩, hpr⟩ := hpv
          rw [LIM_eq] at p0
          rw [maxLen_eq] at p2
          have Hx := Lib.hid hx
          have Hxr := Lib.hid hxr
          have K2 := Lib.hid (show w.cell? ⟨lb, lo + a * 11 + 2, none⟩ = _ from k2)
          have HPr := Lib.hid hpr
          clear hx hxr hxc hxa hrow k2 hpr hSb
          go_wp2_with fail
          rename World => wx
          have HXx := Lib.hid (HX.out.trans HX1.out)
          go_loopw [7, 10] (fun v' k' wr => ∃ (R2 : List Uid) (k : Nat), k ≤ x.ps.length ∧ k' = .int .i64 k ∧ i < R2.length ∧ Hid (OwnL uidR 23 (w.heap.size + 2) wr v' R2) ∧ Hid (Reach l (t1, i1) R2) ∧ Hid (ClosedR l (t2, i2) R2 i) ∧ Hid (R2[i]? = some r) ∧ Hid (DoneP x (t2, i2) R2 k) ∧ Hid (wr.heap[w.heap.size + 1]? = some (.cells #[.string t2, .string i2] 23 (0, 0))) ∧ Hid (Ext w wr)) (fun _ k' _ => x.ps.length - (intOf k').toNat)
          case atStart => exact ⟨R, 0, Nat.zero_le _, rfl, Hlt.out, HO1, HR, HC, Hr, Lib.hid fun _ _ h => by omega, HB1, HXx⟩
          case round =>
            clear HO1 HR HC Hr HB1 HXx HX1 HO HB HX HLim
            obtain ⟨R2, k, hk, rfl, hi2, HO, HR, HC, Hr, HD, HB, HX⟩ := hrel
            have hRl2 := HR.out.len
            have hLIM2 : R2.length ≤ LIM := by rw [LIM_eq]; omega
            obtain ⟨A4, c4, hsh⟩ := HO.out.shape
            obtain ⟨_, _, hd3, hd3'⟩ : ∃ _ : Unit, True ∧ R2.length ≤ c4 ∧ c4 ≤ 9223372036854775807 := by
              obtain ⟨A', c', e, ⟨_, h2, h3⟩, _⟩ := HO.out.rows hLIM2
              rw [hsh] at e
              injection e with e1 e2 e3
              subst e3
              rw [maxLen_eq] at h3
              exact ⟨(), trivial, h2, h3⟩
            subst hsh
            have HLim2 := Lib.hid hLIM2
            clear hLIM2
            have kk2 := HX.out.cell K2.out
            by_cases hkt : k < x.ps.length
            · obtain ⟨pb, po, rfl, hSp, hprow⟩ := HPr.out (by omega)
              obtain ⟨p, hp⟩ : ∃ p, x.ps[k]? = some p := ⟨_, List.getElem?_eq_getElem hkt⟩
              obtain ⟨pcs, hpc, rfl, hfp⟩ := hprow k p hp
              have k0 : wr.cell? ⟨pb, po + k * 2, none⟩ = some (.string p.1) := HX.out.cell (hpc 0 _ rfl)
              have k1 : wr.cell? ⟨pb, po + k * 2 + 1, none⟩ = some (.string p.2) := HX.out.cell (hpc 1 _ rfl)
              have f0 : ∀ o, (wr.alloc o).cell? ⟨w.heap.size + 1, 0, none⟩ = some (.string t2) := fun o => (World.cell?_of_block (w := wr) (heap_alloc_old _ _ (Blk_lt HB.out))).trans (cell_of_row _ _ 0 _ _ _ HB.out)
              have f1 : ∀ o, (wr.alloc o).cell? ⟨w.heap.size + 1, 1, none⟩ = some (.string i2) := fun o => (World.cell?_of_block (w := wr) (heap_alloc_old _ _ (Blk_lt HB.out))).trans (cell_of_row _ _ 1 _ _ _ HB.out)
              have Hp := Lib.hid hp
              have Hfp := Lib.hid hfp
              have Hkt := Lib.hid hkt
              have HAb : Hid (Above l r p) := Lib.hid ⟨x, List.mem_of_getElem? Hx.out, Hxr.out, List.mem_of_getElem? hp, HTy.out.pars x (List.mem_of_getElem? Hx.out) p (List.mem_of_getElem? hp)⟩
              obtain ⟨tb, htb⟩ : ∃ tb, decide (p = ((t2, i2) : Uid)) = tb := ⟨_, rfl⟩
              have tq : ∀ w, (binOp .eql 23 (.agg #[.string p.1, .string p.2]) (.agg #[.string t2, .string i2])).run Tryz.prog w = .ok (.bool tb) w := fun w => by rw [← htb]; exact eqlU p (t2, i2) w
              have tq' : ∀ w, (Op.equalIn 10000 23 (.agg #[.string p.1, .string p.2]) (.agg #[.string t2, .string i2])).run Tryz.prog w = .ok tb w := fun w => by rw [← htb]; exact eqlU_in p (t2, i2) w
              have tg : ∀ (y z : Operand) w, (eqGuard .eql 23 y z (.agg #[.string p.1, .string p.2]) (.agg #[.string t2, .string i2])).run Tryz.prog w = .ok () w := fun y z w => guardU _ y z p (t2, i2) w
              have HTb := Lib.hid htb
              clear hp hpc hprow hfp htb hSp
              cases tb with
              | true =>
                go_wp2_with fail
                go_ret
                refine ⟨?_, HX.out.alloc _⟩
                have hpe : p = (t2, i2) := of_decide_eq_true HTb.out
                have hup : UpTo l (t1, i1) (t2, i2) := by
                  have h1 := HAb.out
                  rw [hpe] at h1
                  rcases HR.out.from' r (List.mem_of_getElem? Hr.out) with h | h
                  · rw [← h]; exact .one h1
                  · exact h.more h1
                unfold inB
                simp [hup]
              | false =>
                go_wp2_with fail
                clear tq tq' tg f0 f1 k0 k1 kk2
                obtain ⟨wp, hwp⟩ : ∃ wp, wp = wr.alloc (.cells #[.string p.1, .string p.2] 23) := ⟨_, rfl⟩
                have HXp : Hid (Ext wr wp) := Lib.hid (hwp ▸ (Ext.refl wr).alloc _)
                have HBp : Hid (wp.heap[wr.heap.size]? = some (.cells #[.string p.1, .string p.2] 23 (0, 0))) := Lib.hid (hwp ▸ heap_alloc_new _ _)
                have HOp := Lib.hid (HO.out.ext HXp.out)
                rw [← hwp]
                clear hwp
                go_loopw [12, 13] (fun s' j' wr => ∃ j : Nat, j ≤ R2.length ∧ j' = .int .i64 j ∧ s' = .bool (seenB p (R2.take j)) ∧ Hid (Ext wp wr)) (fun _ j' _ => R2.length - (intOf j').toNat)
                case atStart => exact ⟨0, Nat.zero_le _, rfl, rfl, Lib.hid (Ext.refl _)⟩
                case round =>
                  obtain ⟨j, hj, rfl, rfl, HXj⟩ := hrel
                  by_cases hjt : j < R2.length
                  · obtain ⟨z, hz⟩ : ∃ z, R2[j]? = some z := ⟨_, List.getElem?_eq_getElem hjt⟩
                    obtain ⟨zb, zo, zcs, rfl, hzc, rfl, hzf⟩ := (HOp.out.ext HXj.out).at' HLim2.out hz
                    have c0 := cell_of_row _ _ 0 _ _ _ ((HXj.out.block _ (Blk_lt HBp.out)).trans HBp.out)
                    have c1' := cell_of_row _ _ 1 _ _ _ ((HXj.out.block _ (Blk_lt HBp.out)).trans HBp.out)
                    simp at c0 c1'
                    have r0 := cell_regrown c0
                    have r1 := cell_regrown c1'
                    have r2 := cell_regrown (show wr.cell? ⟨zb, zo + j * 2, none⟩ = some (.string z.1) from hzc 0 _ rfl)
                    have r3 := cell_regrown (show wr.cell? ⟨zb, zo + j * 2 + 1, none⟩ = some (.string z.2) from hzc 1 _ rfl)
                    obtain ⟨tc, htc⟩ : ∃ tc, decide (z = p) = tc := ⟨_, rfl⟩
                    have tq : ∀ w, (binOp .eql 23 (.agg #[.string z.1, .string z.2]) (.agg #[.string p.1, .string p.2])).run Tryz.prog w = .ok (.bool tc) w := fun w => by rw [← htc]; exact eqlU z p w
                    have tq' : ∀ w, (Op.equalIn 10000 23 (.agg #[.string z.1, .string z.2]) (.agg #[.string p.1, .string p.2])).run Tryz.prog w = .ok tc w := fun w => by rw [← htc]; exact eqlU_in z p w
                    have tg : ∀ (y y' : Operand) w, (eqGuard .eql 23 y y' (.agg #[.string z.1, .string z.2]) (.agg #[.string p.1, .string p.2])).run Tryz.prog w = .ok () w := fun y y' w => guardU _ y y' z p w
                    have HTc := Lib.hid htc
                    have Hz := Lib.hid hz
                    have Hjt := Lib.hid hjt
                    obtain ⟨td, htd⟩ : ∃ td, seenB p (R2.take j) = td := ⟨_, rfl⟩
                    have HTd := Lib.hid htd
                    rw [htd]
                    clear hz hzc hzf c0 c1' htc htd
                    have Hres : Hid (seenB p (R2.take (j + 1)) = (td || tc)) := Lib.hid (by
                      rw [List.take_succ_eq_append_getElem Hjt.out, show R2[j]'Hjt.out = z from by have := Hz.out; rw [List.getElem?_eq_getElem Hjt.out] at this; exact Option.some.inj this, seenB_snoc, HTd.out, HTc.out])
                    cases td with
                    | true =>
                      go_wp2_with fail
                      refine region_later (by kernel_rfl) (by kernel_rfl) ?_
                      repeat (go_big_quiet_step (fail))
                      refine wpQuiet_nil ?_
                      intro w2 hw2
                      have HX2 := Lib.hid (HXj.out.trans hw2)
                      clear tq tq' tg hw2 r0 r1 r2 r3
                      go_wp2_with fail
                      go_roundw
                      case rel => exact ⟨j + 1, by have := Hjt.out; omega, by go_num, by rw [Hres.out]; rfl, HX2⟩
                      case measure => have := Hjt.out; simp [intOf]; omega
                    | false =>
                      go_wp2_with fail
                      refine region_later (by kernel_rfl) (by kernel_rfl) ?_
                      repeat (go_big_quiet_step (fail))
                      refine wpQuiet_nil ?_
                      intro w2 hw2
                      have HX2 := Lib.hid (HXj.out.trans hw2)
                      clear tq tq' tg hw2 r0 r1 r2 r3
                      go_wp2_with fail
                      go_roundw
                      case rel => exact ⟨j + 1, by have := Hjt.out; omega, by go_num, by rw [Hres.out]; rfl, HX2⟩
                      case measure => have := Hjt.out; simp [intOf]; omega
                  · obtain rfl : j = R2.length := by omega
                    rw [List.take_length]
                    have HBj := Lib.hid ((HXj.out.block _ (Blk_lt HBp.out)).trans HBp.out)
                    have HOj := Lib.hid (HOp.out.ext HXj.out)
                    have HXw := Lib.hid (HX.out.trans (HXp.out.trans HXj.out))
                    have HBw := Lib.hid (((HXp.out.trans HXj.out).block _ (Blk_lt HB.out)).trans HB.out)
                    have hpne : p ≠ (t2, i2) := of_decide_eq_false HTb.out
                    have Hpne := Lib.hid hpne
                    clear hpne
                    by_cases hm : p ∈ R2
                    · rw [seenB_iff.2 hm]
                      have Hm := Lib.hid hm
                      clear hm
                      go_wp2_with fail
                      go_roundw
                      case rel => exact ⟨R2, k + 1, by have := Hkt.out; omega, by go_num, hi2, HOj, HR, HC, Hr, Lib.hid (HD.out.next Hp.out Hm.out Hpne.out), HBw, HXw⟩
                      case measure => have := Hkt.out; simp [intOf]; omega
                    · rw [show seenB p R2 = false from by cases h : seenB p R2 with | false => rfl | true => exact absurd (seenB_iff.1 h) hm]
                      have Hm := Lib.hid hm
                      clear hm
                      have hsz : w.heap.size + 2 ≤ wr.heap.size := by
                        have h1 := Blk_lt HBw.out
                        omega
                      have HSz := Lib.hid hsz
                      have hHp : uidR.At (fun b => b < wr.heap.size ∧ Value.ownBlock (.slice A4 R2.length c4) ≠ some b) wr p [.string p.1, .string p.2] := ⟨rfl, Hfp.out⟩
                      have HHp := Lib.hid hHp
                      clear hsz hHp
                      go_wp2_with (first | refine wpList_load_cells rfl 23 _ rfl _ 0 rfl Tryz.agg23 Tryz.size23 rfl (cells_of_row HBj.out) ?_ | (at_builtin; refine wpList_push rfl (.tmp 71) (.tmp 73) 50 rfl uidR (w.heap.size + 2) 23 i0 _ 32 Tryz.underlying50 hi0 hz0 hz1 hz2 rfl (.slice A4 R2.length c4) R2 wr 23 p [.string p.1, .string p.2] rfl rfl HOj.out HHp.out (by rw [maxLen_eq]; omega) (by omega) HSz.out ?_; intro v' w5 ho5 hg5))
                      have hR5 := HR.out.push (List.mem_of_getElem? Hr.out) HAb.out Hm.out
                      have HR5 := Lib.hid hR5
                      have HO5 := Lib.hid ho5
                      have HB5 := Lib.hid ((hg5.block _ (Blk_lt HBw.out) (fun e => by have := (HOj.out.lt _ e.symm).1; omega)).trans HBw.out)
                      have HX5 : Hid (Ext w w5) := Lib.hid (ext_apart HXw.out hg5 fun b e => by have := (HOj.out.lt _ e).1; omega)
                      have Hr5 : Hid ((R2 ++ [p])[i]? = some r) := Lib.hid (by rw [List.getElem?_append_left hi2]; exact Hr.out)
                      clear hR5 ho5 hg5
                      go_wp2_with fail
                      go_roundw
                      case rel => exact ⟨R2 ++ [p], k + 1, by have := Hkt.out; omega, by go_num, by simp; omega, HO5, HR5, Lib.hid (HC.out.push (by omega) p), Hr5, Lib.hid ((HD.out.push p).next Hp.out (by simp) Hpne.out), HB5, HX5⟩
                      case measure => have := Hkt.out; simp [intOf]; omega
            · obtain rfl : k = x.ps.length := by omega
              go_wp2_with fail
              go_roundw
              case rel => exact ⟨R2, i + 1, by omega, by go_num, HO, HR, Lib.hid (HC.out.next HTy.out.names (List.mem_of_getElem? Hx.out) (by rw [Hr.out, Hxr.out]) HD.out), HB, HX⟩
              case measure => simp [intOf]; omega
      · obtain rfl : i = R.length := by omega
        go_wp2_with fail
        go_ret
        refine ⟨?_, HX.out⟩
        have hno := HR.out.no HC.out
        unfold inB
        rw [HT.out]
        simp [hno]
end Go.Proofs.YtebfoimbdljbmaaGreatDoor
