/-
  Whether entities conform to a schema: the program's Store. The conditions: all lies in memory as it should, and is of modest size.
-/
import Derived.Test.YtjllolagcdjlnaaGreatStoP1M
import Derived.Test.YtjllolagcdjlnaaGreatGf
namespace Go.Proofs.YtjllolagcdjlnaaGreat
open Go.RowKit

/-- may an entity be in a store of a schema, with these actions -/
def okE (s : Sch) (acts : List Ent) (x : Ent) : Bool :=
  if x.uid.1 = tAct then acts.any (sameE x) else
  match styIdx s.types x.uid.1 with
  | none => false
  | some i => match s.types[i]? with
    | none => false
    | some t => !(x.ps.any fun p => !(t.ins.any fun n => decide (n = p.1))) && recB t.attrs x.av.items x.av.names
def foundN (l : List Ent) : Nat := (l.filter fun x => decide (x.uid.1 = tAct)).length
/-- what a store is answered -/
noncomputable def stoAns (s : Sch) (l : List Ent) : Int :=
  if (canonE l).2 ≠ 0 then (canonE l).2 else
  if (canonE l).1.all (okE s (canonE (actsE s.acts)).1) then (if foundN (canonE l).1 < (canonE (actsE s.acts)).1.length then 41 else 0) else 41

theorem canonE_len' (l : List Ent) : (canonE l).1.length ≤ l.length := by
  by_cases h : Good l
  · rw [canonE_length h]; exact Nat.le_refl _
  · rw [canonE_bad h]; exact Nat.zero_le _
theorem canonE_rec {l : List Ent} (h : (canonE l).2 = 0) {x : Ent} (hx : x ∈ (canonE l).1) : x.av.Is ∧ x.av.kind = 6 := by
  have hg := canonE_iff.1 h
  obtain ⟨e, he, rfl⟩ := (canonE_mem hg x).1 hx
  have h0 := (hg.ones e he).2.1
  have h6 := (hg.ones e he).1
  refine ⟨canon_is h0, ?_⟩
  show e.av.canon.1.kind = 6
  exact canon_kind h6 h0
theorem foundN_le (l : List Ent) : foundN l ≤ l.length := List.length_filter_le _ _
theorem foundN_next {l : List Ent} {k : Nat} {x : Ent} (h : l[k]? = some x) : foundN (l.take (k + 1)) = foundN (l.take k) + if x.uid.1 = tAct then 1 else 0 := by
  rw [take_next h]
  unfold foundN
  rw [List.filter_append, List.length_append]
  by_cases hx : x.uid.1 = tAct <;> simp [hx]
theorem actsE_small {l : List ActT} (hp : ∀ a ∈ l, a.ins.length ≤ 1048576) : (∀ e ∈ actsE l, e.ps.length ≤ 1048576) ∧ ∀ e ∈ actsE l, e.av.dep ≤ 1000000 := by
  constructor <;> intro e he <;> obtain ⟨a, ha, rfl⟩ := List.mem_map.1 he
  · show (upA a.ins).length ≤ _
    simp [upA]; exact hp a ha
  · show recV.dep ≤ _
    decide

theorem of_beq {a b : List UInt8} (h : (a == b) = true) : a = b := by simpa using h
theorem tAct_not {x : ByteArray} (h : (x.toList == [65, 99, 116, 105, 111, 110]) = false) : x ≠ tAct := fun e => by rw [e, tAct_list] at h; simp at h
theorem all_not {α : Type} {l : List α} {p : α → Bool} {i : Nat} {x : α} (hx : l[i]? = some x) (h : p x = false) : l.all p = false := by
  rw [Bool.eq_false_iff]
  intro ht
  rw [List.all_eq_true] at ht
  rw [ht x (List.mem_of_getElem? hx)] at h
  cases h
theorem rows_at {α : Type} {R : Rep α} {S : Nat → Prop} {w : World} {l : List α} {A : Option Addr} {n c : Nat} (h : R.RowsAt S w l (.slice A n c)) (hn : 0 < l.length) : ∃ b o, A = some ⟨b, o, none⟩ ∧ S b ∧ R.RowAt S w l b o := by
  obtain ⟨A', c', e, _, hr⟩ := h
  injection e with e1 _ _
  subst e1
  exact hr hn
theorem is_rec {v : Val} (h : v.Is) (hk : v.kind = 6) : v.names.length ≤ v.items.length ∧ ∀ x ∈ v.items, x.Is := by
  obtain ⟨k, bo, n, t, ut, ui, items, names⟩ := v
  obtain rfl : k = 6 := hk
  unfold Val.Is at h
  rcases h with h | h | h | h | h | h
  · exact absurd h.1 (by decide)
  · exact absurd h.1 (by decide)
  · exact absurd h.1 (by decide)
  · exact absurd h.1 (by decide)
  · exact absurd h.1 (by decide)
  · exact ⟨Nat.le_of_eq h.2.2.2.2.2.2.1, (Val.are_iff _).1 h.2.2.2.2.2.2.2.2.2⟩
theorem record_of (v : Val) (_hk : v.kind = 6) (hle : v.names.length ≤ v.items.length) (hit : ∀ x ∈ v.items, x.Is) (l : List Atr) (S : Nat → Prop) (w : World) (cs : List Value) (rv : Value) (hS : ∀ b, S b → b < w.heap.size)
    (hv : Val.At S w v cs) (hl : atrR.RowsAt S w l rv) : Calls Tryz.prog 79 #[.agg cs.toArray, rv] w fun e w' => e = .returned (.bool (recB l v.items v.names)) ∧ Ext w w' := by
  obtain ⟨k, bo, n, t, ut, ui, items, names⟩ := v
  exact record_okC k bo n t ut ui items names hle l S w cs rv hS hv hl fun x hx => takes_ok _ x (Nat.le_refl _) (hit x hx) x (by simp)

set_option maxRecDepth 100000 in
set_option maxHeartbeats 8000000 in
theorem storeP_ok (S : Nat → Prop) (s : Sch) (ss : List Value) (l : List Ent) (v : Value) (w : World) (hS : ∀ b, S b → b < w.heap.size) (hs : Sch.At S w s ss) (hl : entR.RowsAt S w l v) (h20 : l.length ≤ 1048576) (hps : ∀ e ∈ l, e.ps.length ≤ 1048576) (hdep : ∀ e ∈ l, e.av.dep ≤ 1000000)
    (ha20 : s.acts.length ≤ 1048576) (hap : ∀ a ∈ s.acts, a.ins.length ≤ 1048576) :
    Calls Tryz.prog 43 #[.agg ss.toArray, v] w fun e w' => e = .returned (.int .i64 (stoAns s l)) ∧ Ext w w' := by
  have HSs := Lib.hid hs
  have HL := Lib.hid hl
  obtain ⟨_, _, rfl, ⟨SA, sc, rfl, _⟩, ⟨SB, sd, rfl, _⟩⟩ := hs
  obtain ⟨LA, lc, rfl, _⟩ := hl
  have HS := Lib.hid hS
  have HP := Lib.hid hps
  have HDp := Lib.hid hdep
  have HAp := Lib.hid (actsE_small hap)
  have HAl := Lib.hid (show (actsE s.acts).length ≤ 1048576 by simpa [actsE] using ha20)
  obtain ⟨ans, hans⟩ : ∃ ans, stoAns s l = ans := ⟨_, rfl⟩
  rw [hans]
  have HAns := Lib.hid hans
  have hx0 := (Ext.refl w).alloc (.cells #[.slice SA s.types.length sc, .slice SB s.acts.length sd] 70)
  have HX0 := Lib.hid hx0
  clear hS hps hdep hap hans hx0
  go_enter Tryz.func43, Tryz.ntmps43
  go_wp2_with fail
  refine (canE_ok S l _ _ (fun b hb => Nat.lt_of_lt_of_le (HS.out b hb) HX0.out.size) (HL.out.alike (Alike.of_ext HX0.out HS.out)) h20 HP.out HDp.out).mono ?_
  rintro e w1 ⟨cv, rfl, ⟨xs, hown, hfl⟩, hx1⟩
  have HX1 := Lib.hid (HX0.out.trans hx1)
  have HB1 : Hid (w1.heap[w.heap.size]? = some (.cells #[.slice SA s.types.length sc, .slice SB s.acts.length sd] 70 (0, 0))) := Lib.hid ((hx1.block _ (by simp)).trans (heap_alloc_new _ _))
  have hcl := canonE_len' l
  have hcr : entR.RowsAt (fun b => b < w1.heap.size) w1 (canonE l).1 cv := own_rows hown hfl (by rw [LIM_eq]; omega) (fun b hb => hb.2.1) fun b hb => (hown.lt b hb).2
  have HCr := Lib.hid hcr
  obtain ⟨Ac, cc, rfl, ⟨_, hc1, hc2⟩, _⟩ := hcr
  rw [maxLen_eq] at hc2
  clear hx1 hown hfl
  by_cases he : (canonE l).2 = 0
  case neg =>
    obtain ⟨er, her⟩ : ∃ er, (canonE l).2 = er := ⟨_, rfl⟩
    rw [her] at he ⊢
    have HN : Hid (ans = er) := Lib.hid (by rw [← HAns.out]; unfold stoAns; rw [her, if_pos he])
    have e0 : (er != 0) = true := by simpa using he
    clear he her
    go_wp2_with fail
    go_ret
    exact ⟨ret_int HN.out.symm, HX1.out⟩
  have HE := Lib.hid he
  have HA1 : Hid (ans = if (canonE l).1.all (okE s (canonE (actsE s.acts)).1) then (if foundN (canonE l).1 < (canonE (actsE s.acts)).1.length then 41 else 0) else 41) := Lib.hid (by rw [← HAns.out]; unfold stoAns; rw [he, if_neg (by simp)])
  have hrec : ∀ x ∈ (canonE l).1, x.av.Is ∧ x.av.kind = 6 := fun x hx => canonE_rec he hx
  rw [he]
  generalize (canonE l).1 = c at *
  have HRec := Lib.hid hrec
  clear he hrec HE HAns
  go_wp2_with (first | refine wpList_load_cells rfl 70 _ rfl w.heap.size 0 rfl Tryz.aggSc Tryz.sizeSc (cs := [.slice SA s.types.length sc, .slice SB s.acts.length sd]) rfl (cells_of_row HB1.out) ?_)
  refine (actions_ok S s [_, _] w1 (fun b hb => Nat.lt_of_lt_of_le (HS.out b hb) HX1.out.size) (HSs.out.alike (Alike.of_ext HX1.out HS.out))).mono ?_
  rintro e w2 ⟨av, rfl, hao, hx2⟩
  have HX2 := Lib.hid (HX1.out.trans hx2)
  have HB2 := Lib.hid ((hx2.block _ (Blk_lt HB1.out)).trans HB1.out)
  have HC2 := Lib.hid ((HCr.out.alike (Alike.of_ext hx2 fun _ h => h)).mono fun b hb => Nat.lt_of_lt_of_le hb hx2.size)
  have har := hao.rows (by have := HAl.out; rw [LIM_eq]; omega)
  have HAr := Lib.hid har
  obtain ⟨A1, c1, rfl, _⟩ := har
  clear hao hx2
  go_wp2_with fail
  refine (canE_ok _ (actsE s.acts) _ w2 (fun _ h => h) HAr.out HAl.out HAp.out.1 HAp.out.2).mono ?_
  rintro e w3 ⟨bv, rfl, ⟨ys, hown, hfl⟩, hx3⟩
  have HX3 := Lib.hid (HX2.out.trans hx3)
  have HB3 := Lib.hid ((hx3.block _ (Blk_lt HB2.out)).trans HB2.out)
  have HC3 := Lib.hid ((HC2.out.alike (Alike.of_ext hx3 fun _ h => h)).mono fun b hb => Nat.lt_of_lt_of_le hb hx3.size)
  have hal := canonE_len' (actsE s.acts)
  have hbl : (canonE (actsE s.acts)).1.length ≤ 1048576 := Nat.le_trans hal HAl.out
  have hbr : entR.RowsAt (fun b => b < w3.heap.size) w3 (canonE (actsE s.acts)).1 bv := own_rows hown hfl (by rw [LIM_eq]; omega) (fun b hb => hb.2.1) fun b hb => (hown.lt b hb).2
  generalize (canonE (actsE s.acts)).2 = er2
  generalize (canonE (actsE s.acts)).1 = acts at *
  have HBr := Lib.hid hbr
  obtain ⟨Ab, bc, rfl, _⟩ := hbr
  clear hx3 hown hfl hal
  go_wp2_with fail
  go_loopw [9, 32] (fun f' i' wr => ∃ k : Nat, k ≤ c.length ∧ i' = .int .i64 k ∧ f' = .int .i64 (foundN (c.take k)) ∧ Hid (Ext w3 wr) ∧ Hid (∀ i x, i < k → c[i]? = some x → okE s acts x = true)) (fun _ i' _ => c.length - (intOf i').toNat)
  case atStart => exact ⟨0, Nat.zero_le _, rfl, rfl, Lib.hid (Ext.refl _), Lib.hid fun _ _ h => by omega⟩
  case round =>
    obtain ⟨k, hk, rfl, rfl, HX, HA⟩ := hrel
    have hfk := foundN_le (c.take k)
    have hfk' : foundN (c.take k) ≤ 1048576 := by
      have : (c.take k).length ≤ c.length := by rw [List.length_take]; omega
      omega
    by_cases hlt : k < c.length
    · obtain ⟨x, hx⟩ : ∃ x, c[k]? = some x := ⟨_, List.getElem?_eq_getElem hlt⟩
      obtain ⟨cb, co, eA, hcb, hcrow⟩ := rows_at HC3.out (by omega)
      subst eA
      obtain ⟨cx, hcx, hxa⟩ := hcrow k x hx
      have hcx : CellsAt w3 cb (co + k * 11) cx := hcx
      have hcx := hcx.alike (S := fun b => b < w3.heap.size) hcb (Alike.of_ext HX.out fun _ h => h)
      have hxa := entR.mono (entR.alike hxa (Alike.of_ext HX.out fun _ h => h)) (fun b hb => Nat.lt_of_lt_of_le hb HX.out.size)
      obtain ⟨P, pl, pc, xk, xb, xn, xt, xut, xui, A5, l5, c5, A6, l6, c6, rfl⟩ := ent_shape hxa
      have HCx := Lib.hid hcx
      have HXa := Lib.hid hxa
      have Hx := Lib.hid hx
      have HFn := Lib.hid (foundN_next hx)
      clear hcx hxa hx hcrow hcb hfk
      obtain ⟨W, hW⟩ : ∃ W, W = wr.alloc (.cells #[.string x.uid.1, .string x.uid.2, .slice P pl pc, .int .i64 xk, .bool xb, .int .i64 xn, .string xt, .string xut, .string xui, .slice A5 l5 c5, .slice A6 l6 c6] 37) := ⟨_, rfl⟩
      have hxW : Ext wr W := by rw [hW]; exact (Ext.refl wr).alloc _
      have hnew : W.heap[wr.heap.size]? = some (.cells #[.string x.uid.1, .string x.uid.2, .slice P pl pc, .int .i64 xk, .bool xb, .int .i64 xn, .string xt, .string xut, .string xui, .slice A5 l5 c5, .slice A6 l6 c6] 37 (0, 0)) := by rw [hW]; exact heap_alloc_new _ _
      have hBW := ((HX.out.trans hxW).block _ (Blk_lt HB3.out)).trans HB3.out
      have HBW := Lib.hid hBW
      have HXW := Lib.hid hxW
      have HNew := Lib.hid hnew
      clear hxW hnew hBW
      subst hW
      go_wp2_with (first | refine wpList_load_cells rfl 37 _ rfl cb (co + k * 11) rfl Tryz.agg60 Tryz.size60 rfl HCx.out ?_ | refine wpList_load_cells rfl 70 _ rfl w.heap.size 0 rfl Tryz.aggSc Tryz.sizeSc (cs := [.slice SA s.types.length sc, .slice SB s.acts.length sd]) rfl (cells_of_row HBW.out) ?_)
      · have ht : x.uid.1 = tAct := tAct_of (of_beq (by assumption))
        have HTt := Lib.hid ht
        clear ht
        refine (containsFuncRE entR rfl 89 #[.pointer (some ⟨wr.heap.size, 0, none⟩)] (sameE x) (fun b => b < wr.heap.size) acts _ _ Tryz.enterS1 (fun b hb => Nat.lt_of_lt_of_le hb HXW.out.size) (((HBr.out.alike (Alike.of_ext HX.out fun _ h => h)).mono fun b hb => Nat.lt_of_lt_of_le hb HX.out.size).alike (Alike.of_ext HXW.out fun _ h => h))
          (fun a _ ca w5 hw5 ha => store1_ok x a (fun b => b < wr.heap.size) w5 _ ca wr.heap.size (fun b hb => Nat.lt_of_lt_of_le hb (HXW.out.trans hw5).size) (entR.alike HXa.out (Alike.of_ext (HXW.out.trans hw5) fun _ h => h)) ha ((hw5.block _ (Blk_lt HNew.out)).trans HNew.out))).mono ?_
        rintro e w5 ⟨rfl, hx5⟩
        have HX5 := Lib.hid (HX.out.trans (HXW.out.trans hx5))
        clear hx5
        obtain ⟨sb, hsb⟩ : ∃ sb, acts.any (sameE x) = sb := ⟨_, rfl⟩
        rw [hsb]
        have HOk : Hid (okE s acts x = sb) := Lib.hid (by unfold okE; rw [if_pos HTt.out]; exact hsb)
        clear hsb
        cases sb with
        | false =>
          go_wp2_with fail
          go_ret
          exact ⟨ret_int (by rw [HA1.out, if_neg (by rw [all_not Hx.out HOk.out]; simp)]), HX3.out.trans HX5.out⟩
        | true =>
          go_wp2_with fail
          go_roundw
          case rel => exact ⟨k + 1, by omega, by go_num, by rw [HFn.out, if_pos HTt.out]; go_num, HX5, Lib.hid fun i y hi hy => by
            by_cases hik : i = k
            · subst hik; rw [Hx.out] at hy; cases hy; exact HOk.out
            · exact HA.out i y (by omega) hy⟩
          case measure => simp [intOf]; omega
      · have ht : x.uid.1 ≠ tAct := tAct_not (by assumption)
        have HTt := Lib.hid ht
        clear ht
        refine (sty_ok S s [_, _] x.uid.1 _ (fun b hb => Nat.lt_of_lt_of_le (HS.out b hb) (HX3.out.trans (HX.out.trans HXW.out)).size) (HSs.out.alike (Alike.of_ext (HX3.out.trans (HX.out.trans HXW.out)) HS.out))).mono ?_
        rintro e w5 ⟨ct, rfl, hct, hx5⟩
        have HX5 := Lib.hid (HX.out.trans (HXW.out.trans hx5))
        have HE5 := Lib.hid ((hx5.block _ (Blk_lt HNew.out)).trans HNew.out)
        have HX5' := Lib.hid (HXW.out.trans hx5)
        clear hx5
        rcases hct with ⟨hno, rfl⟩ | ⟨it, tt, hit, htt, hta⟩
        · rw [hno]
          have HOk : Hid (okE s acts x = false) := Lib.hid (by unfold okE; rw [if_neg HTt.out, hno])
          rw [show zeroEntT = [.string ByteArray.empty, .slice none 0 0, .slice none 0 0] from rfl]
          simp only [Option.isSome]
          clear hno
          go_wp2_with fail
          go_ret
          exact ⟨ret_int (by rw [HA1.out, if_neg (by rw [all_not Hx.out HOk.out]; simp)]), HX3.out.trans (HX5.out.alloc _)⟩
        · rw [hit]
          have HOk0 : Hid (okE s acts x = (!(x.ps.any fun p => !(tt.ins.any fun n => decide (n = p.1))) && recB tt.attrs x.av.items x.av.names)) := Lib.hid (by unfold okE; rw [if_neg HTt.out, hit]; simp only [htt])
          have hta0 := hta
          obtain ⟨z1, z2, rfl, _, hins, hats⟩ := hta
          obtain ⟨Ia, ic, rfl, _⟩ := id hins
          obtain ⟨Ta, tc, rfl, ⟨_, _, _⟩, _⟩ := id hats
          obtain ⟨V, hV⟩ : ∃ V, V = w5.alloc (.cells #[.string tt.name, .slice Ia tt.ins.length ic, .slice Ta tt.attrs.length tc] 112) := ⟨_, rfl⟩
          have hxV : Ext w5 V := by rw [hV]; exact (Ext.refl w5).alloc _
          have hnewT : V.heap[w5.heap.size]? = some (.cells #[.string tt.name, .slice Ia tt.ins.length ic, .slice Ta tt.attrs.length tc] 112 (0, 0)) := by rw [hV]; exact heap_alloc_new _ _
          have hEV := (hxV.block _ (Blk_lt HE5.out)).trans HE5.out
          have d2 : V.cell? ⟨wr.heap.size, 2, none⟩ = some (.slice P pl pc) := cell_of_row _ _ 2 _ _ _ hEV
          have HSV : Hid (∀ b, S b → b < w5.heap.size) := Lib.hid fun b hb => Nat.lt_of_lt_of_le (HS.out b hb) (HX3.out.trans HX5.out).size
          have HTa := Lib.hid (entTR.alike hta0 (Alike.of_ext hxV HSV.out))
          have HAt := Lib.hid (hats.alike (Alike.of_ext hxV HSV.out))
          have HNT := Lib.hid hnewT
          have HEV := Lib.hid hEV
          have HXV := Lib.hid hxV
          obtain ⟨_, _, e, _, hpr, hav⟩ := HXa.out
          cases e
          have HPr := Lib.hid (hpr.alike (Alike.of_ext (HX5'.out.trans hxV) fun _ h => h))
          have HAv := Lib.hid (hav.alike (Alike.of_ext (HX5'.out.trans hxV) fun _ h => h))
          simp only [Option.isSome]
          clear hit htt hta0 hins hats hxV hnewT hEV hpr hav
          subst hV
          go_wp2_with fail
          refine (containsFunc_okU 93 #[.pointer (some ⟨w5.heap.size, 0, none⟩)] (fun p => !(tt.ins.any fun n => decide (n = p.1))) (fun b => b < wr.heap.size) x.ps _ _ Tryz.enterS2 (fun b hb => Nat.lt_of_lt_of_le hb (HX5'.out.trans HXV.out).size) HPr.out
            (fun p _ _ w6 hw6 => store2_ok tt p S w6 _ w5.heap.size (fun b hb => Nat.lt_of_lt_of_le (HSV.out b hb) (HXV.out.trans hw6).size) (entTR.alike HTa.out (Alike.of_ext hw6 fun b hb => Nat.lt_of_lt_of_le (HSV.out b hb) HXV.out.size)) ((hw6.block _ (Blk_lt HNT.out)).trans HNT.out))).mono ?_
          rintro e w6 ⟨rfl, hx6⟩
          obtain ⟨qb, hqb⟩ : ∃ qb, (x.ps.any fun p => !(tt.ins.any fun n => decide (n = p.1))) = qb := ⟨_, rfl⟩
          rw [hqb]
          rw [hqb] at HOk0
          have HX6 := Lib.hid (HX5.out.trans (HXV.out.trans hx6))
          have hE6 := (hx6.block _ (Blk_lt HEV.out)).trans HEV.out
          have hT6 := (hx6.block _ (Blk_lt HNT.out)).trans HNT.out
          have f3 : w6.cell? ⟨wr.heap.size, 3, none⟩ = some (.int .i64 xk) := cell_of_row _ _ 3 _ _ _ hE6
          have f4 : w6.cell? ⟨wr.heap.size, 4, none⟩ = some (.bool xb) := cell_of_row _ _ 4 _ _ _ hE6
          have f5 : w6.cell? ⟨wr.heap.size, 5, none⟩ = some (.int .i64 xn) := cell_of_row _ _ 5 _ _ _ hE6
          have f6 : w6.cell? ⟨wr.heap.size, 6, none⟩ = some (.string xt) := cell_of_row _ _ 6 _ _ _ hE6
          have f7 : w6.cell? ⟨wr.heap.size, 7, none⟩ = some (.string xut) := cell_of_row _ _ 7 _ _ _ hE6
          have f8 : w6.cell? ⟨wr.heap.size, 8, none⟩ = some (.string xui) := cell_of_row _ _ 8 _ _ _ hE6
          have f9 : w6.cell? ⟨wr.heap.size, 9, none⟩ = some (.slice A5 l5 c5) := cell_of_row _ _ 9 _ _ _ hE6
          have fa : w6.cell? ⟨wr.heap.size, 10, none⟩ = some (.slice A6 l6 c6) := cell_of_row _ _ 10 _ _ _ hE6
          have g4 : w6.cell? ⟨wr.heap.size, 3 + 1, none⟩ = some (.bool xb) := f4
          have g5 : w6.cell? ⟨wr.heap.size, 3 + 2, none⟩ = some (.int .i64 xn) := f5
          have g6 : w6.cell? ⟨wr.heap.size, 3 + 3, none⟩ = some (.string xt) := f6
          have g7 : w6.cell? ⟨wr.heap.size, 3 + 4, none⟩ = some (.string xut) := f7
          have g8 : w6.cell? ⟨wr.heap.size, 3 + 5, none⟩ = some (.string xui) := f8
          have g9 : w6.cell? ⟨wr.heap.size, 3 + 6, none⟩ = some (.slice A5 l5 c5) := f9
          have ga : w6.cell? ⟨wr.heap.size, 3 + 7, none⟩ = some (.slice A6 l6 c6) := fa
          have t2 : w6.cell? ⟨w5.heap.size, 2, none⟩ = some (.slice Ta tt.attrs.length tc) := cell_of_row _ _ 2 _ _ _ hT6
          have HAv6 := Lib.hid (HAv.out.alike (Alike.of_ext hx6 fun b hb => Nat.lt_of_lt_of_le hb (HX5'.out.trans HXV.out).size))
          have HAt6 := Lib.hid (HAt.out.alike (Alike.of_ext hx6 fun b hb => Nat.lt_of_lt_of_le (HSV.out b hb) HXV.out.size))
          have HSz := Lib.hid (show wr.heap.size ≤ w6.heap.size from ((HX5'.out.trans HXV.out).trans hx6).size)
          have HSS := Lib.hid (show ∀ b, S b → b < w6.heap.size from fun b hb => Nat.lt_of_lt_of_le (HSV.out b hb) (HXV.out.trans hx6).size)
          clear hqb hx6 hE6 hT6 d2
          cases qb with
          | true =>
            clear f3 f4 f5 f6 f7 f8 f9 fa g4 g5 g6 g7 g8 g9 ga t2
            have HOk : Hid (okE s acts x = false) := Lib.hid (by rw [HOk0.out]; rfl)
            go_wp2_with fail
            go_ret
            exact ⟨ret_int (by rw [HA1.out, if_neg (by rw [all_not Hx.out HOk.out]; simp)]), HX3.out.trans HX6.out⟩
          | false =>
            have HOk1 : Hid (okE s acts x = recB tt.attrs x.av.items x.av.names) := Lib.hid (by rw [HOk0.out]; simp)
            obtain ⟨his, hk6⟩ := HRec.out x (List.mem_of_getElem? Hx.out)
            obtain ⟨hle, hits⟩ := is_rec his hk6
            have hK := record_of x.av hk6 hle hits tt.attrs (fun b => b < w6.heap.size) w6 _ _ (fun _ h => h) (HAv6.out.mono fun b hb => Nat.lt_of_lt_of_le hb HSz.out) (HAt6.out.mono HSS.out)
            obtain ⟨rb, hrb⟩ : ∃ rb, recB tt.attrs x.av.items x.av.names = rb := ⟨_, rfl⟩
            rw [hrb] at hK HOk1
            have HK := Lib.hid hK
            clear his hk6 hle hits hK hrb HOk0
            go_wp2_with fail
            refine HK.out.mono ?_
            rintro e w7 ⟨rfl, hx7⟩
            have HX7 := Lib.hid (HX6.out.trans hx7)
            clear hx7 f3 f4 f5 f6 f7 f8 f9 fa g4 g5 g6 g7 g8 g9 ga t2
            cases rb with
            | false =>
              go_wp2_with fail
              go_ret
              exact ⟨ret_int (by rw [HA1.out, if_neg (by rw [all_not Hx.out HOk1.out]; simp)]), HX3.out.trans HX7.out⟩
            | true =>
              go_wp2_with fail
              go_roundw
              case rel => exact ⟨k + 1, by omega, by go_num, by rw [HFn.out, if_neg HTt.out]; rfl, HX7, Lib.hid fun i y hi hy => by
                by_cases hik : i = k
                · subst hik; rw [Hx.out] at hy; cases hy; exact HOk1.out
                · exact HA.out i y (by omega) hy⟩
              case measure => simp [intOf]; omega
    · obtain rfl : k = c.length := by omega
      have HAll : Hid (c.all (okE s acts) = true) := Lib.hid (by
        rw [List.all_eq_true]
        intro x hx
        obtain ⟨i, hi⟩ := List.mem_iff_getElem?.1 hx
        exact HA.out i x (List.getElem?_eq_some_iff.1 hi).1 hi)
      rw [List.take_length] at hfk' ⊢
      have HA2 : Hid (ans = if foundN c < acts.length then 41 else 0) := Lib.hid (by rw [HA1.out, HAll.out, if_pos rfl])
      by_cases hf : foundN c < acts.length
      · have HF := Lib.hid hf
        go_wp2_with fail
        go_ret
        exact ⟨ret_int (by rw [HA2.out, if_pos HF.out]), HX3.out.trans HX.out⟩
      · have HF := Lib.hid hf
        go_wp2_with fail
        go_ret
        exact ⟨ret_int (by rw [HA2.out, if_neg HF.out]), HX3.out.trans HX.out⟩
end Go.Proofs.YtjllolagcdjlnaaGreat
