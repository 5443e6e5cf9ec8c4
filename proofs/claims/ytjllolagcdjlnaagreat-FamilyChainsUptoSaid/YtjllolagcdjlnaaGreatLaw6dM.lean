/-
  FamilyChains: what the statement's own function answers. The conditions: none.
-/
import Derived.Test.YtjllolagcdjlnaaGreatAnyFM
import Derived.Test.YtjllolagcdjlnaaGreatGh
namespace Go.Proofs.YtjllolagcdjlnaaGreat
open Go.RowKit

theorem lst12 {α : Type} {l : List α} (h : l.length = 12) : ∃ a0 a1 a2 a3 a4 a5 a6 a7 a8 a9 a10 a11, l = [a0, a1, a2, a3, a4, a5, a6, a7, a8, a9, a10, a11] := by
  match l, h with
  | [a0, a1, a2, a3, a4, a5, a6, a7, a8, a9, a10, a11], _ => exact ⟨_, _, _, _, _, _, _, _, _, _, _, _, rfl⟩
theorem entS_two {k j : Nat} {s : Nat → Bool} (h : j + 2 < k) (hs : s j = true) : entS k s j = ⟨uN j, [uN (j + 1), uN (j + 2)], recV⟩ := by simp [entS, psS, show j + 1 < k by omega, h, hs]
theorem entS_one {k j : Nat} {s : Nat → Bool} (h : j + 1 < k) (hs : ¬ (j + 2 < k ∧ s j = true)) : entS k s j = ⟨uN j, [uN (j + 1)], recV⟩ := by
  unfold entS psS
  rw [if_pos h, if_neg hs]
  rfl
theorem entS_end {k j : Nat} {s : Nat → Bool} (h : ¬ j + 1 < k) : entS k s j = ⟨uN j, [], recV⟩ := by simp [entS, psS, h, show ¬ j + 2 < k by omega]
theorem exec_addk {P : Program} {o : Oper} {a : Act} {w : World} {t t' : TypeId} {x : Operand} {d : Nat} (c : Nat) (ho : o.op = .binOp .add t x (.const (.int .i64 (c : Int))) t') (hx : a.eval x = .int .i64 d) (hd : d + c ≤ 1000000) : (execOp a.eval o).run P w = .ok (.value (.int .i64 ((d + c : Nat) : Int))) w := by
  have hw : IntKind.i64.wrap ((d : Int) + (c : Int)) = ((d + c : Nat) : Int) := by rw [show (d : Int) + (c : Int) = ((d + c : Nat) : Int) by omega]; exact IntWalk.i64_in _ (by omega)
  have hc : a.eval (.const (.int .i64 (c : Int))) = .int .i64 c := rfl
  unfold execOp
  simp only [ho, hx, hc]
  simp [go_sem, hw]
theorem exec_cut_str {P : Program} {o : Oper} {a : Act} {w : World} (t : TypeId) (x lo hi : Operand) (ho : o.op = .slice t x (some lo) (some hi) none) (ht : P.underlying t = some .string) (s : ByteArray) (hx : a.eval x = .string s) (p q : Nat)
    (hl : a.eval lo = .int .i64 (p : Int)) (hh : a.eval hi = .int .i64 (q : Int)) (hpq : p ≤ q) (hq : q ≤ s.size) : (execOp a.eval o).run P w = .ok (.value (.string (s.extract p q))) w := by
  unfold execOp
  simp only [ho, Option.map, hx, hl, hh]
  simp [run_underlying ht, Instr.slice, Instr.sliceBounds, run_sliceBound, Instr.sliceAt, hq, hpq]
theorem Tryz.built31 (r t : ByteArray) : Tryz.prog.built 31 [(0, .string r), (1, .string t)] = some #[.string r, .string t] := by kernel_rfl
theorem Tryz.build29 (r t : ByteArray) : ∀ w, (Instr.buildSlice 29 1 #[(0, .agg #[.string r, .string t])]).run Tryz.prog w = .ok (.slice (some ⟨w.heap.size, 0, none⟩) 1 1) (w.alloc (.cells #[.string r, .string t] 31)) := by
  intro w; simp [Instr.buildSlice, go_sem]
/-- one parent more: how far -/
def StageS (wr w3 : World) (E : Nat) (u p q : Uid) : List Value → World → Prop
  | [], W => Ext w3 W
  | [v1], W => Ext w3 W ∧ ∃ o, v1 = .slice (some ⟨o, 0, none⟩) 1 1 ∧ W.heap[o]? = some (.cells #[.string q.1, .string q.2] 31 (0, 0))
  | [_, v2], W => Ext wr W ∧ W.heap[E]? = some (.cells (entCells u (.slice (some ⟨E + 1, 0, none⟩) 1 1) recC).toArray 37 (0, 0)) ∧ W.ownsRow (E + 1) 31 2 v2 2 [.string p.1, .string p.2, .string q.1, .string q.2]
  | [_, v2, _], W => Ext wr W ∧ W.heap[E]? = some (.cells (entCells u v2 recC).toArray 37 (0, 0)) ∧ W.ownsRow (E + 1) 31 2 v2 2 [.string p.1, .string p.2, .string q.1, .string q.2]
  | _, _ => False

-- WALK
set_option maxRecDepth 100000 in
set_option maxHeartbeats 4000000 in
theorem familyChains_walk (n t : Nat) (hn : n ≤ 255) (_ht : t ≤ 255) (w : World) :
    Calls Tryz.prog 9 #[.int .u8 n, .int .u8 t] w fun e w' => e = .returned (.bool true) ∧ Ext w w' := by
  go_enter Tryz.func9, Tryz.ntmps9
  go_wp2_with fail
  refine (awake6_ok _).mono ?_
  rintro e w1 ⟨rfl, hx1⟩
  have HX1 := Lib.hid hx1
  clear hx1
  go_wp2_with fail
  obtain ⟨k, hk⟩ : ∃ k : Nat, k = 1 + n % 12 := ⟨_, rfl⟩
  have ek : (1 : Int) + (n : Int) % 12 = (k : Int) := by omega
  rw [ek]
  have hk1 : 1 ≤ k := by omega
  have hk12 : k ≤ 12 := by omega
  clear ek hk
  obtain ⟨i0, hi, hz0, hz1, hz2⟩ := info_parts Tryz.info60
  obtain ⟨iu, hu, uz0, uz1, uz2⟩ := info_parts Tryz.info23
  obtain ⟨s, hs⟩ : ∃ s : Nat → Bool, s = fun j => bits .and .u8 ((t : Int) / 2 ^ (j % 8)) 1 == 1 := ⟨_, rfl⟩
  have HS : Hid (∀ j, s j = (bits .and .u8 ((t : Int) / 2 ^ (j % 8)) 1 == 1)) := Lib.hid fun j => by rw [hs]
  clear hs
  go_loopw [7, 8] (fun v i wr => ∃ j : Nat, j ≤ k ∧ i = .int .i64 j ∧ Hid (Ext w1 wr) ∧ Hid (∃ pvs, Chain w1.heap.size wr v ((List.range j).map (entS k s)) pvs)) (fun _ i _ => k - (intOf i).toNat)
  case atStart => exact ⟨0, Nat.zero_le _, rfl, Lib.hid (Ext.refl _), Lib.hid ⟨[], Chain.nil _ _⟩⟩
  case round =>
    obtain ⟨j, hj, rfl, HXr, HC⟩ := hrel
    by_cases hlt : j < k
    · obtain ⟨pvs, hch⟩ := HC.out
      have HCh := Lib.hid hch
      obtain ⟨A7, c7, e7⟩ := own_shape hch.row
      have hlj : ((List.range j).map (entS k s)).length = j := by simp
      clear hch HC
      generalize hes : (List.range j).map (entS k s) = es at *
      have Hes := Lib.hid hes
      have Hlj := Lib.hid hlj
      have hle : es.length ≤ 12 := by omega
      clear hes hlj
      subst e7
      by_cases hlast : j + 1 < k
      · have HLast := Lib.hid hlast
        by_cases hl2 : j + 2 < k
        · cases hb : (bits .and .u8 ((t : Int) / 2 ^ (j % 8)) 1 == 1) with
          | true =>
            have HEnt := Lib.hid (entS_two hl2 ((HS.out j).trans hb))
            have hW := heap2 wr (.cells (entCells (uN j) (.slice (some ⟨wr.heap.size + 1, 0, none⟩) 1 1) recC).toArray 37) (.cells [.string (uN (j + 1)).1, .string (uN (j + 1)).2].toArray 31)
            obtain ⟨w3, hw3⟩ : ∃ w3 : World, w3 = (wr.alloc (.cells (entCells (uN j) (.slice (some ⟨wr.heap.size + 1, 0, none⟩) 1 1) recC).toArray 37)).alloc (.cells [.string (uN (j + 1)).1, .string (uN (j + 1)).2].toArray 31) := ⟨_, rfl⟩
            rw [← hw3] at hW
            obtain ⟨m0, m1, msz, mx⟩ := hW
            have M0 := Lib.hid m0
            have M1 := Lib.hid m1
            have MX := Lib.hid mx
            have MS := Lib.hid msz
            clear m0 m1 mx msz
            go_upto_region 13 with (fail)
            change Code.wp _ _ _ _ ((wr.alloc (.cells (entCells (uN j) (.slice (some ⟨wr.heap.size + 1, 0, none⟩) 1 1) recC).toArray 37)).alloc (.cells [.string (uN (j + 1)).1, .string (uN (j + 1)).2].toArray 31))
            rw [← hw3]
            clear hw3
            refine staged_regionW 12 [8, 9, 11] [.pointer (some ⟨wr.heap.size, 2, none⟩), (.slice (some ⟨wr.heap.size + 1, 0, none⟩) 1 1), .int .i64 j, .int .i64 ((j + 2 : Nat) : Int), .int .i64 j, .int .i64 ((j + 3 : Nat) : Int), .string (uN (j + 2)).2, .agg #[.string (uN (j + 2)).1, .string (uN (j + 2)).2], undef, undef, .pointer (some ⟨wr.heap.size, 2, none⟩), undef] (StageS wr w3 wr.heap.size (uN j) (uN (j + 1)) (uN (j + 2))) (by kernel_rfl) (by kernel_rfl) (by kernel_rfl) (by kernel_rfl)
              (show Ext w3 w3.drew from ⟨⟨rfl, rfl, rfl, Nat.le_refl _, fun _ _ => rfl⟩, Nat.le_succ _⟩) (fun i' op hi' hn ho vs W a hdone hRR hold hat => ?_) (fun k' i' op hk ho vs W a hvl hRR hold hat Q' K hK => ?_) ?_
            · rcases (by simp at hn; omega : i' = 0 ∨ i' = 1 ∨ i' = 2 ∨ i' = 3 ∨ i' = 4 ∨ i' = 5 ∨ i' = 6 ∨ i' = 7 ∨ i' = 10) with rfl | rfl | rfl | rfl | rfl | rfl | rfl | rfl | rfl <;> obtain rfl := Option.some.inj ho
              · exact exec_field _ _ _ rfl (hold 9 (by kernel_rfl)) (Tryz.field60p wr.heap.size)
              · have hlen := hdone 2 11 rfl (by kernel_rfl)
                have hbW : W.heap[wr.heap.size]? = some (.cells (entCells (uN j) (.slice (some ⟨wr.heap.size + 1, 0, none⟩) 1 1) recC).toArray 37 (0, 0)) := by
                  match vs, hRR, hlen with
                  | [], h, _ => exact ((show Ext w3 W from h).block _ (Blk_lt M0.out)).trans M0.out
                  | [_], h, _ => exact ((show Ext w3 W from h.1).block _ (Blk_lt M0.out)).trans M0.out
                  | [_, _], h, _ => exact h.2.1
                  | _ :: _ :: _ :: _, _, h => simp at h
                exact exec_load_one 29 _ rfl wr.heap.size 2 (hat 0 58 (by omega) (by kernel_rfl) (by kernel_rfl)) Tryz.agg58 (by rw [cell_of_row _ _ _ _ _ _ hbW]; rfl)
              · exact exec_move rfl (hold 8 (by kernel_rfl))
              · exact exec_addk 2 rfl (hat 2 60 (by omega) (by kernel_rfl) (by kernel_rfl)) (by omega)
              · exact exec_move rfl (hold 8 (by kernel_rfl))
              · exact exec_addk 3 rfl (hat 4 62 (by omega) (by kernel_rfl) (by kernel_rfl)) (by omega)
              · exact exec_cut_str 9 _ _ _ rfl (by kernel_rfl) abc rfl (j + 2) (j + 3) (hat 3 61 (by omega) (by kernel_rfl) (by kernel_rfl)) (hat 5 63 (by omega) (by kernel_rfl) (by kernel_rfl)) (by omega) (by have : abc.size = 12 := rfl; omega)
              · exact exec_build_agg _ _ rfl (by
                  have h := hat 6 64 (by omega) (by kernel_rfl) (by kernel_rfl)
                  simp [h]
                  exact ⟨rfl, rfl⟩) (Tryz.built31 _ _)
              · exact exec_field _ _ _ rfl (hold 9 (by kernel_rfl)) (Tryz.field60p wr.heap.size)
            · have hk4 : k' < 3 := by simpa using (List.getElem?_eq_some_iff.1 hk).1
              rcases (by omega : k' = 0 ∨ k' = 1 ∨ k' = 2) with rfl | rfl | rfl <;> obtain rfl := Option.some.inj hk <;> obtain rfl := Option.some.inj ho
              · obtain rfl := List.eq_nil_of_length_eq_zero hvl
                have hxW : Ext w3 W := hRR
                exact wp_value2 (exec_build _ _ rfl (hat 7 65 (by omega) (by kernel_rfl) (by kernel_rfl)) (Tryz.build29 _ _ W)) (hK _ _ ⟨hxW.alloc _, _, rfl, heap_alloc_new _ _⟩)
              · obtain ⟨v1, rfl⟩ := lst1 hvl
                obtain ⟨hxW, o, rfl, hbo⟩ := hRR
                refine wp_append_at (.tmp 59) (.tmp 66) 29 rfl (wr.heap.size + 1) 31 iu _ 2 32 Tryz.underlying29 hu uz0 uz1 uz2 rfl (by decide) (.slice (some ⟨wr.heap.size + 1, 0, none⟩) 1 1) 1 [.string (uN (j + 1)).1, .string (uN (j + 1)).2] (hat 1 59 (by omega) (by kernel_rfl) (by kernel_rfl)) (own_new ((hxW.block _ (Blk_lt M1.out)).trans M1.out) (Nat.le_refl _) rfl (by omega)) o 0 1 1 [.string (uN (j + 2)).1, .string (uN (j + 2)).2] (hat 8 66 (by omega) (by kernel_rfl) (by kernel_rfl)) rfl (cells_of_row hbo) (by simp [Value.oneCell']) (by rw [maxLen_eq]; omega) (by omega) (by have h1 := MS.out; have h2 := hxW.size; omega) ?_
                intro v2 w4 hown hg _
                exact hK _ _ ⟨ext_apart (MX.out.trans hxW) hg fun b hb => by simp only [Value.ownBlock] at hb; injection hb with hb; omega, (hg.block _ (by have := hxW.size; have := MS.out; omega) (fun e => by simp only [Value.ownBlock] at e; injection e with e; omega)).trans ((hxW.block _ (Blk_lt M0.out)).trans M0.out), hown⟩
              · obtain ⟨v1, v2, rfl⟩ := lst2 hvl
                obtain ⟨hxW, hbE, hown⟩ := hRR
                obtain ⟨A2, c2, rfl⟩ := own_shape hown
                refine wp_store_slice 29 _ _ rfl wr.heap.size 2 (hat 10 68 (by omega) (by kernel_rfl) (by kernel_rfl)) A2 2 c2 (hat 9 67 (by omega) (by kernel_rfl) (by kernel_rfl)) (fun _ => by kernel_rfl) 37 _ hbE (by simp [entCells]) (fun w' hb' hg' => hK _ _ ⟨ext_apart hxW hg' fun b hb => by injection hb with hb; omega, by rw [hb']; simp [entCells], ownsRow_apart hown hg' fun b hb e => ?_⟩)
                have h1 := (hown.lt b hb).1
                injection e with e
                omega
            · intro zs vs W4 hzl hvl hRR hzs
              obtain ⟨v1, v2, v3, rfl⟩ := lst3 hvl
              obtain ⟨z0, z1, z2, z3, z4, z5, z6, z7, z8, z9, z10, z11, rfl⟩ := lst12 hzl
              obtain ⟨hx4, hb4, hown4⟩ := hRR
              have HX4 := Lib.hid hx4
              have HB4 := Lib.hid hb4
              have HO4 := Lib.hid hown4
              obtain ⟨A2, c2, rfl⟩ := own_shape hown4
              clear hzs hzl hvl hb4 hown4 hx4 M0 M1 MX MS
              simp only [List.take, List.drop, putAll, Act.put, List.setIfInBounds_toArray, List.set_cons_zero, List.set_cons_succ]
              have HL4 : Hid (CellsAt W4 wr.heap.size 0 [.string tU, .string (cN j), .slice A2 2 c2, .int .i64 6, .bool false, .int .i64 0, .string ByteArray.empty, .string ByteArray.empty, .string ByteArray.empty, .slice none 0 0, .slice none 0 0]) := Lib.hid (cells_of_row HB4.out)
              go_wp2_with (first | (refine wpList_load_cells rfl 37 _ rfl wr.heap.size 0 rfl Tryz.agg60 Tryz.size60 rfl HL4.out ?_) | (at_builtin; refine wpList_append_at rfl (.tmp 69) (.tmp 71) 22 rfl w1.heap.size 37 i0 _ 11 176 Tryz.underlying22 hi hz0 hz1 hz2 rfl (by decide) (.slice A7 es.length c7) es.length (chainCells es pvs) rfl (ownsRow_ext HCh.out.row (HX4.out.alloc _)) W4.heap.size 0 1 1 (entCells (uN j) (.slice A2 2 c2) recC) rfl rfl ?q1 ?q2 ?q3 ?q4 ?q5 ?_))
              case q1 => exact cellsAt_new _ _ (by simp)
              case q2 => simp [entCells, recC, Value.oneCell']
              case q3 => rw [maxLen_eq]; omega
              case q4 => omega
              case q5 => have h1 := HXr.out.size; have h2 := HX4.out.size; simp; omega
              intro v' w2 hown' hgrow hblk
              have hnew := HCh.out.push (e := ⟨uN j, [uN (j + 1), uN (j + 2)], recV⟩) (pv := .slice A2 2 c2) HX4.out ((Ext.refl _).alloc _) ⟨uN_fit (by omega), rfl, by simp⟩ (ownsRow_base HO4.out (by have := HXr.out.size; omega)) ((Rep.Flat.single (R := uidR) (x := uN (j + 1)) (cs := [.string (uN (j + 1)).1, .string (uN (j + 1)).2]) ⟨rfl, uN_fit (by omega)⟩).append (Rep.Flat.single (R := uidR) (x := uN (j + 2)) (cs := [.string (uN (j + 2)).1, .string (uN (j + 2)).2]) ⟨rfl, uN_fit (by omega)⟩)) (fun b hb => by have := (HO4.out.lt b hb).1; omega) hown' hgrow
              rw [← HEnt.out, ← Hes.out, ← List.map_singleton, ← List.map_append, ← List.range_succ] at hnew
              have hext : Ext w1 w2 := ext_apart (HXr.out.trans (HX4.out.trans ((Ext.refl _).alloc _))) hgrow fun b hb => (HCh.out.row.lt b hb).1
              have HN := Lib.hid hnew
              have HE := Lib.hid hext
              clear hown' hgrow hblk hnew hext
              go_wp2_with fail
              go_roundw
              case rel => exact ⟨j + 1, by omega, by go_num, Lib.hid HE.out, Lib.hid ⟨_, HN.out⟩⟩
              case measure => simp [intOf]; omega
          | false =>
            have HEnt := Lib.hid (entS_one hlast (s := s) fun h => by rw [HS.out j, hb] at h; cases h.2)
            go_wp2_with (at_builtin; refine wpList_append_at rfl (.tmp 69) (.tmp 71) 22 rfl w1.heap.size 37 i0 _ 11 176 Tryz.underlying22 hi hz0 hz1 hz2 rfl (by decide) (.slice A7 es.length c7) es.length (chainCells es pvs) rfl (ownsRow_ext HCh.out.row ((((Ext.refl wr).alloc _).alloc _).alloc _)) (wr.heap.size + 1 + 1) 0 1 1 (entCells (uN j) (.slice (some ⟨wr.heap.size + 1, 0, none⟩) 1 1) recC) rfl rfl ?q1 ?q2 ?q3 ?q4 ?q5 ?_)
            case q1 => exact cellsAt_new _ _ (by simp)
            case q2 => simp [entCells, recC, Value.oneCell']
            case q3 => rw [maxLen_eq]; omega
            case q4 => omega
            case q5 => have := HXr.out.size; simp; omega
            intro v' w2 hown' hgrow hblk
            have hW := heap2 wr (.cells (entCells (uN j) (.slice (some ⟨wr.heap.size + 1, 0, none⟩) 1 1) recC).toArray 37) (.cells [.string (uN (j + 1)).1, .string (uN (j + 1)).2].toArray 31)
            obtain ⟨m0, m1, msz, mx⟩ := hW
            have hnew := HCh.out.push (e := ⟨uN j, [uN (j + 1)], recV⟩) (pv := .slice (some ⟨wr.heap.size + 1, 0, none⟩) 1 1) mx ((Ext.refl _).alloc _) ⟨uN_fit (by omega), rfl, by simp⟩ (own_new m1 (by have := HXr.out.size; omega) rfl (by omega)) (.single ⟨rfl, uN_fit (by omega)⟩) (fun b hb => by simp only [Value.ownBlock] at hb; injection hb with hb; omega) hown' hgrow
            rw [← HEnt.out, ← Hes.out, ← List.map_singleton, ← List.map_append, ← List.range_succ] at hnew
            have hext : Ext w1 w2 := ext_apart (HXr.out.trans (mx.trans ((Ext.refl _).alloc _))) hgrow fun b hb => (HCh.out.row.lt b hb).1
            clear m0 m1 msz mx
            have HN := Lib.hid hnew
            have HE := Lib.hid hext
            clear hown' hgrow hblk hnew hext
            go_wp2_with fail
            go_roundw
            case rel => exact ⟨j + 1, by omega, by go_num, Lib.hid HE.out, Lib.hid ⟨_, HN.out⟩⟩
            case measure => simp [intOf]; omega
        · have HEnt := Lib.hid (entS_one hlast (s := s) fun h => hl2 h.1)
          go_wp2_with (at_builtin; refine wpList_append_at rfl (.tmp 69) (.tmp 71) 22 rfl w1.heap.size 37 i0 _ 11 176 Tryz.underlying22 hi hz0 hz1 hz2 rfl (by decide) (.slice A7 es.length c7) es.length (chainCells es pvs) rfl (ownsRow_ext HCh.out.row ((((Ext.refl wr).alloc _).alloc _).alloc _)) (wr.heap.size + 1 + 1) 0 1 1 (entCells (uN j) (.slice (some ⟨wr.heap.size + 1, 0, none⟩) 1 1) recC) rfl rfl ?q1 ?q2 ?q3 ?q4 ?q5 ?_)
          case q1 => exact cellsAt_new _ _ (by simp)
          case q2 => simp [entCells, recC, Value.oneCell']
          case q3 => rw [maxLen_eq]; omega
          case q4 => omega
          case q5 => have := HXr.out.size; simp; omega
          intro v' w2 hown' hgrow hblk
          have hW := heap2 wr (.cells (entCells (uN j) (.slice (some ⟨wr.heap.size + 1, 0, none⟩) 1 1) recC).toArray 37) (.cells [.string (uN (j + 1)).1, .string (uN (j + 1)).2].toArray 31)
          obtain ⟨m0, m1, msz, mx⟩ := hW
          have hnew := HCh.out.push (e := ⟨uN j, [uN (j + 1)], recV⟩) (pv := .slice (some ⟨wr.heap.size + 1, 0, none⟩) 1 1) mx ((Ext.refl _).alloc _) ⟨uN_fit (by omega), rfl, by simp⟩ (own_new m1 (by have := HXr.out.size; omega) rfl (by omega)) (.single ⟨rfl, uN_fit (by omega)⟩) (fun b hb => by simp only [Value.ownBlock] at hb; injection hb with hb; omega) hown' hgrow
          rw [← HEnt.out, ← Hes.out, ← List.map_singleton, ← List.map_append, ← List.range_succ] at hnew
          have hext : Ext w1 w2 := ext_apart (HXr.out.trans (mx.trans ((Ext.refl _).alloc _))) hgrow fun b hb => (HCh.out.row.lt b hb).1
          clear m0 m1 msz mx
          have HN := Lib.hid hnew
          have HE := Lib.hid hext
          clear hown' hgrow hblk hnew hext
          go_wp2_with fail
          go_roundw
          case rel => exact ⟨j + 1, by omega, by go_num, Lib.hid HE.out, Lib.hid ⟨_, HN.out⟩⟩
          case measure => simp [intOf]; omega
      · have HEnt := Lib.hid (entS_end hlast (s := s))
        go_wp2_with (at_builtin; refine wpList_append_at rfl (.tmp 69) (.tmp 71) 22 rfl w1.heap.size 37 i0 _ 11 176 Tryz.underlying22 hi hz0 hz1 hz2 rfl (by decide) (.slice A7 es.length c7) es.length (chainCells es pvs) rfl (ownsRow_ext HCh.out.row (((Ext.refl wr).alloc _).alloc _)) (wr.heap.size + 1) 0 1 1 (entCells (uN j) (.slice none 0 0) recC) rfl rfl ?q1 ?q2 ?q3 ?q4 ?q5 ?_)
        case q1 => exact cellsAt_new _ _ (by simp)
        case q2 => simp [entCells, recC, Value.oneCell']
        case q3 => rw [maxLen_eq]; omega
        case q4 => omega
        case q5 => have := HXr.out.size; simp; omega
        intro v' w2 hown' hgrow hblk
        have mx := (Ext.refl wr).alloc (.cells (entCells (uN j) (.slice none 0 0) recC).toArray 37)
        have hnew := HCh.out.push (e := ⟨uN j, [], recV⟩) (pv := .slice none 0 0) mx ((Ext.refl _).alloc _) ⟨uN_fit (by omega), rfl, by simp⟩ (World.ownsRow_nil _ _ _ _) rfl (fun b hb => by cases hb) hown' hgrow
        rw [← HEnt.out, ← Hes.out, ← List.map_singleton, ← List.map_append, ← List.range_succ] at hnew
        have hext : Ext w1 w2 := ext_apart (HXr.out.trans (mx.trans ((Ext.refl _).alloc _))) hgrow fun b hb => (HCh.out.row.lt b hb).1
        clear mx
        have HN := Lib.hid hnew
        have HE := Lib.hid hext
        clear hown' hgrow hblk hnew hext
        go_wp2_with fail
        go_roundw
        case rel => exact ⟨j + 1, by omega, by go_num, Lib.hid HE.out, Lib.hid ⟨_, HN.out⟩⟩
        case measure => simp [intOf]; omega
    · have hjk : j = k := by omega
      subst hjk
      obtain ⟨pvs, hch⟩ := HC.out
      replace hch : Chain w1.heap.size wr u7 (esS j s) pvs := hch
      have hrows : entR.RowsAt (fun b => b < wr.heap.size) wr (esS j s) u7 := own_rows (R := entR) hch.row hch.flat (by rw [esS_length, LIM_eq]; omega) (fun b hb => hb) fun b hb => (hch.row.lt b hb).2
      have hlj := esS_length j s
      have HRows := Lib.hid hrows
      obtain ⟨A7, c7, e7, ⟨hl0, hl1, hl2⟩, hlr⟩ := hrows
      obtain ⟨b, o, rfl, hSb, hrow⟩ := hlr (by omega)
      rw [hlj] at e7 hl1
      rw [maxLen_eq] at hl2
      subst e7
      have HRow := Lib.hid hrow
      have Hlj := Lib.hid hlj
      have HP : Hid (∀ e ∈ esS j s, e.ps.length ≤ 1000) := Lib.hid fun e he => by
        obtain ⟨i, _, rfl⟩ := (memS (List.Perm.refl _)).1 he
        have := psS_length j s i
        show (psS j s i).length ≤ 1000
        omega
      have HD : Hid (∀ e ∈ esS j s, e.av.dep ≤ 1000000) := Lib.hid fun e he => by
        obtain ⟨i, _, rfl⟩ := (memS (List.Perm.refl _)).1 he
        show recV.dep ≤ _
        decide
      clear hrow hlr hch HC hlj hl0 hlt hSb
      go_wp2_with fail
      refine (load_ok (fun b => b < wr.heap.size) (esS j s) _ wr (fun _ h => h) HRows.out (by rw [Hlj.out]; omega) HP.out HD.out).mono ?_
      rintro e w3 ⟨hbad, hgood, hx3⟩
      clear hbad
      obtain ⟨g, rfl, hfam, hg⟩ := hgood (canonE_iff.2 (goodS hk12 (List.Perm.refl _)))
      have HX3 := Lib.hid (HX1.out.trans (HXr.out.trans hx3))
      have HFam := Lib.hid hfam
      have HK : Hid (∀ i, i < j → w3.cell? ⟨b, o + i * 11, none⟩ = some (.string (uN i).1) ∧ w3.cell? ⟨b, o + i * 11 + 1, none⟩ = some (.string (uN i).2)) := Lib.hid fun i hi => by
        obtain ⟨cs, hca, hxa⟩ := HRow.out i _ (esS_get hi)
        obtain ⟨k0, k1, _⟩ := ent_cells hca hxa
        exact ⟨hx3.cell k0, hx3.cell k1⟩
      clear hgood hfam hg hx3 HP HD HRow HRows HXr HX1
      go_wp2_with fail
      go_loopw [12] (fun i' wr => ∃ i : Nat, i ≤ j ∧ i' = .int .i64 i ∧ Hid (Ext w3 wr)) (fun i' _ => j - (intOf i').toNat)
      case atStart => exact ⟨0, Nat.zero_le _, rfl, Lib.hid (Ext.refl _)⟩
      case round =>
        obtain ⟨i, hi', rfl, HX⟩ := hrel
        by_cases hlt : i < j
        · have c0 := HX.out.cell (HK.out i hlt).1
          have c1 := HX.out.cell (HK.out i hlt).2
          have HFr := Lib.hid (HFam.out.ext HX.out)
          have e1 : ((j : Int) - 1 - (i : Int)) = ((j - 1 - i : Nat) : Int) := by omega
          go_wp2_with fail
          refine ((aboveF_ok g (canonE (esS j s)).1 (uN i) wr (uN_fit (by omega)) HFr.out).mono fun e w' h => aboveLen hk12 (List.Perm.refl _) hlt h).mono ?_
          rintro e w4 ⟨A4, c4, rfl, hx4⟩
          have HX4 := Lib.hid (HX.out.trans hx4)
          clear hx4 c0 c1 HX HFr
          go_wp2_with fail
          clear e1
          rename World => wz
          go_loopw [13] (fun q' wr => ∃ q : Nat, q ≤ j ∧ q' = .int .i64 q ∧ Hid (Ext w3 wr)) (fun q' _ => j - (intOf q').toNat)
          case atStart => exact ⟨0, Nat.zero_le _, rfl, HX4⟩
          case round =>
            clear HX4
            obtain ⟨q, hq, rfl, HX⟩ := hrel
            by_cases hqt : q < j
            · have HFr := Lib.hid (HFam.out.ext HX.out)
              have g0 := cell_regrown (HX.out.cell (HK.out i hlt).1)
              have g1 := cell_regrown (HX.out.cell (HK.out i hlt).2)
              have g2 := cell_regrown (HX.out.cell (HK.out q hqt).1)
              have g3 := cell_regrown (HX.out.cell (HK.out q hqt).2)
              by_cases hle : i ≤ q
              · have KI : Hid (∀ X, Ext wr X → Calls Tryz.prog 28 #[.pointer (some ⟨g, 0, none⟩), .agg #[.string (uN i).1, .string (uN i).2], .agg #[.string (uN q).1, .string (uN q).2]] X fun e w' => e = .returned (.bool true) ∧ Ext X w') := Lib.hid fun X hX => by
                  have h := inF_ok g (canonE (esS j s)).1 (uN i) (uN q) X (uN_fit (by omega)) (uN_fit (by omega)) (HFr.out.ext hX)
                  rw [inB_S hk12 (List.Perm.refl _) (by omega) (by omega), show decide (i ≤ q) = true by simp; omega] at h
                  exact h
                go_wp2_with fail
                refine region_later (by kernel_rfl) (by kernel_rfl) ?_
                iterate 11 (go_big_quiet_step (fail))
                go_big_quiet_step ((go_at_call 28; exact later_call KI.out _ _))
                iterate 4 (go_big_quiet_step (fail))
                refine wpQuiet_nil ?_
                intro w6 hw6
                have HX6 := Lib.hid (HX.out.trans hw6)
                clear hw6 g0 g1 g2 g3
                go_wp2_with fail
                go_roundw
                case rel => exact ⟨q + 1, by omega, by go_num, HX6⟩
                case measure => simp [intOf]; omega
              · have KI : Hid (∀ X, Ext wr X → Calls Tryz.prog 28 #[.pointer (some ⟨g, 0, none⟩), .agg #[.string (uN i).1, .string (uN i).2], .agg #[.string (uN q).1, .string (uN q).2]] X fun e w' => e = .returned (.bool false) ∧ Ext X w') := Lib.hid fun X hX => by
                  have h := inF_ok g (canonE (esS j s)).1 (uN i) (uN q) X (uN_fit (by omega)) (uN_fit (by omega)) (HFr.out.ext hX)
                  rw [inB_S hk12 (List.Perm.refl _) (by omega) (by omega), show decide (i ≤ q) = false by simp; omega] at h
                  exact h
                go_wp2_with fail
                refine region_later (by kernel_rfl) (by kernel_rfl) ?_
                iterate 11 (go_big_quiet_step (fail))
                go_big_quiet_step ((go_at_call 28; exact later_call KI.out _ _))
                iterate 4 (go_big_quiet_step (fail))
                refine wpQuiet_nil ?_
                intro w6 hw6
                have HX6 := Lib.hid (HX.out.trans hw6)
                clear hw6 g0 g1 g2 g3
                go_wp2_with fail
                go_roundw
                case rel => exact ⟨q + 1, by omega, by go_num, HX6⟩
                case measure => simp [intOf]; omega
            · go_wp2_with fail
              go_roundw
              case rel => exact ⟨i + 1, by omega, by go_num, HX⟩
              case measure => simp [intOf]; omega
        · go_wp2_with fail
          go_ret
          exact ⟨rfl, HX3.out.trans HX.out⟩
theorem byte_in6 {n : Int} (h : (Lit.int .u8 n).wf = true) : 0 ≤ n ∧ n ≤ 255 := by
  simpa [Lit.wf, IntKind.min, IntKind.max, IntKind.signed, IntKind.bits] using h
theorem familyChains_int (n t : Int) (hn : 0 ≤ n ∧ n ≤ 255) (ht : 0 ≤ t ∧ t ≤ 255) (w : World) : Calls Tryz.prog 9 #[.int .u8 n, .int .u8 t] w fun e w' => e = .returned (.bool true) ∧ Ext w w' := by
  obtain ⟨n, rfl⟩ := Int.eq_ofNat_of_zero_le hn.1
  obtain ⟨t, rfl⟩ := Int.eq_ofNat_of_zero_le ht.1
  exact familyChains_walk n t (by omega) (by omega) w
end Go.Proofs.YtjllolagcdjlnaaGreat
