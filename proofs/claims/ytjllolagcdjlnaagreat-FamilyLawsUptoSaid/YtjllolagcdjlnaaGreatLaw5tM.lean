/-
  EntityTurned: what the statement's own function answers. The conditions: the entities lie in memory as they should.
-/
import Derived.Test.YtjllolagcdjlnaaGreatGd
import Derived.Test.YtjllolagcdjlnaaGreatGf
namespace Go.Proofs.YtjllolagcdjlnaaGreat
open Go.RowKit

theorem Tryz.fieldE0 (b o : Nat) : ∀ w, (Instr.fieldAt 37 (.pointer (some ⟨b, o, none⟩)) 0).run Tryz.prog w = .ok (.pointer (some ⟨b, o, none⟩)) w := by
  intro w; simp [Instr.fieldAt, go_sem]
theorem Tryz.fieldE2 (b o : Nat) : ∀ w, (Instr.fieldAt 37 (.pointer (some ⟨b, o, none⟩)) 2).run Tryz.prog w = .ok (.pointer (some ⟨b, o + 3, none⟩)) w := by
  intro w; simp [Instr.fieldAt, go_sem]
theorem lst15 {α : Type} {l : List α} (h : l.length = 15) : ∃ a0 a1 a2 a3 a4 a5 a6 a7 a8 a9 a10 a11 a12 a13 a14, l = [a0, a1, a2, a3, a4, a5, a6, a7, a8, a9, a10, a11, a12, a13, a14] := by
  match l, h with
  | [_, _, _, _, _, _, _, _, _, _, _, _, _, _, _], _ => exact ⟨_, _, _, _, _, _, _, _, _, _, _, _, _, _, _, rfl⟩
/-- one entity more: how far -/
def StageT (w7 : World) (cs : List Value) (base : Nat) (out : Value) (acc : List Ent) (e : Ent) : List Value → World → Prop
  | [], W => Ext w7 W
  | [bl], W => ∃ W1, Ext w7 W1 ∧ bl = .slice (some ⟨W1.heap.size, 0, none⟩) 1 1 ∧ W = W1.alloc (.cells cs.toArray 37)
  | [_, v2], W => ∃ W1, Ext w7 W1 ∧ OwnL entR 37 base W v2 (acc ++ [e]) ∧ GrownBy W1 W out.ownBlock
  | _, _ => False
theorem StageT.start (w7 : World) {cs : List Value} {base : Nat} {out : Value} {acc : List Ent} {e : Ent} : StageT w7 cs base out acc e [] w7.drew := ⟨⟨rfl, rfl, rfl, Nat.le_refl _, fun _ _ => rfl⟩, Nat.le_succ _⟩
theorem StageT.old {w7 : World} {cs : List Value} {base : Nat} {out : Value} {acc : List Ent} {e : Ent} {vs : List Value} {W : World} (h : StageT w7 cs base out acc e vs W) (b : Nat) (h1 : b < w7.heap.size) (h2 : ¬ out.ownBlock = some b) : W.heap[b]? = w7.heap[b]? := by
  match vs, h with
  | [], h => exact (show Ext w7 W from h).block b h1
  | [bl], ⟨W1, hk, _, e'⟩ =>
    subst e'
    rw [heap_alloc_old _ _ (Nat.lt_of_lt_of_le h1 hk.size)]
    exact hk.block b h1
  | [_, v2], ⟨W1, hk, _, hg⟩ => exact (hg.block b (Nat.lt_of_lt_of_le h1 hk.size) fun e => h2 e.symm).trans (hk.block b h1)
  | _ :: _ :: _ :: _, h => exact h.elim
theorem ents_rows {l : List Ent} {base : Nat} {w : World} {v : Value} (h : ∃ xs, w.ownsRow base 37 11 v l.length xs ∧ entR.Flat (Made base w v) w l xs) (hl : l.length ≤ LIM) : entR.RowsAt (fun b => b < w.heap.size) w l v := by
  obtain ⟨xs, h1, h2⟩ := h
  exact own_rows (R := entR) h1 h2 hl (fun b hb => hb.2.1) fun b hb => (h1.lt b hb).2

set_option maxRecDepth 100000 in
set_option maxHeartbeats 4000000 in
theorem entityTurned_walk (l : List Ent) (W : World) (v : Value) (hl : entR.RowsAt (fun b => b < W.heap.size) W l v) :
    Calls Tryz.prog 4 #[v] W fun e W' => e = .returned (.bool true) ∧ Ext W W' := by
  have HR := Lib.hid hl
  obtain ⟨A, cap, rfl, ⟨hl0, hl1, hl2⟩, hlr⟩ := hl
  rw [maxLen_eq] at hl2
  have HL := Lib.hid hlr
  clear hlr hl0
  obtain ⟨i0, hi0, hz0, hz1, hz2⟩ := info_parts Tryz.info60
  obtain ⟨iu, hiu, uz0, uz1, uz2⟩ := info_parts Tryz.info23
  go_enter Tryz.func4, Tryz.ntmps4
  go_wp2_with fail
  refine (awake5_ok _).mono ?_
  rintro e w1 ⟨rfl, hx1⟩
  have HX1 := Lib.hid hx1
  clear hx1
  go_wp2_with fail
  refine (small_ok (fun b => b < W.heap.size) l _ w1 (fun b hb => Nat.lt_of_lt_of_le hb HX1.out.size) (HR.out.alike (Alike.of_ext HX1.out fun _ h => h))).mono ?_
  rintro e w2 ⟨r, hr, rfl, hx2⟩
  have HX2 := Lib.hid (HX1.out.trans hx2)
  cases r with
  | false =>
    clear hr hx2
    go_wp2_with fail
    go_ret
    exact ⟨rfl, HX2.out⟩
  | true =>
    have hsm := hr rfl
    have hl20 := hsm.len
    have HP : Hid (∀ e ∈ l, e.ps.length ≤ 20) := Lib.hid fun e he => (hsm.each e he).1
    have HD : Hid (∀ e ∈ l, e.av.dep ≤ 1000000) := Lib.hid hsm.lens.2.2
    clear hr hx2 hsm
    go_wp2_with fail
    refine (canE_ok (fun b => b < W.heap.size) l _ w2 (fun b hb => Nat.lt_of_lt_of_le hb HX2.out.size) (HR.out.alike (Alike.of_ext HX2.out fun _ h => h)) (by omega) (fun e he => by have := HP.out e he; omega) HD.out).mono ?_
    rintro e w3 ⟨va, rfl, hva, hx3⟩
    have HVa := Lib.hid hva
    have HX3 := Lib.hid (HX2.out.trans hx3)
    have HS3 := Lib.hid (show ∀ b, (fun b => b < W.heap.size) b → b < w3.heap.size from fun b hb => Nat.lt_of_lt_of_le hb HX3.out.size)
    have HL3 := Lib.hid (show 0 < l.length → ∃ b o, A = some ⟨b, o, none⟩ ∧ b < W.heap.size ∧ entR.RowAt (fun b => b < W.heap.size) w3 l b o from fun h0 => by
      obtain ⟨b, o, e, h1, h2⟩ := HL.out h0
      exact ⟨b, o, e, h1, h2.alike h1 (Alike.of_ext HX3.out fun _ h => h)⟩)
    generalize her : (canonE l).2 = er at *
    have HEr := Lib.hid her
    clear hva hx3 her
    go_wp2_with fail
    go_loopw [7, 9] (fun out' i' wr => ∃ (j : Nat) (z : Int) (acc : List Ent), j ≤ l.length ∧ i' = .int .i64 z ∧ z + 1 = j ∧ acc.length + j ≤ l.length ∧ Hid (acc = backE (l.drop j)) ∧ Hid (OwnL entR 37 w3.heap.size wr out' acc) ∧ Hid (Ext w3 wr)) (fun _ i' _ => (intOf i' + 1).toNat)
    case atStart => exact ⟨l.length, _, [], Nat.le_refl _, rfl, by omega, by simp, Lib.hid (by simp [backE]), Lib.hid OwnL.nil, Lib.hid (Ext.refl _)⟩
    case round =>
      obtain ⟨j, z, acc, hj, rfl, hz, hal, HAcc, HO, HX⟩ := hrel
      cases j with
      | zero =>
        obtain rfl : z = -1 := by omega
        have HAcc2 : Hid (acc = backE l) := Lib.hid (by have h := HAcc.out; rwa [List.drop_zero] at h)
        clear HAcc hz hj
        have HmR := Lib.hid (HO.out.rows (by rw [LIM_eq]; omega))
        have HPm : Hid (∀ e ∈ acc, e.ps.length ≤ 20) := Lib.hid (by rw [HAcc2.out]; exact (backE_small (D := 1000000) HP.out (fun e he => HD.out e he)).1)
        obtain ⟨Am, cm, em⟩ := HO.out.shape
        subst em
        have hmm := HmR.out
        obtain ⟨Am', cm', em', ⟨_, hmc, hmx⟩, hml⟩ := hmm
        injection em' with em1 _ em3
        subst em1 em3
        rw [maxLen_eq] at hmx
        obtain ⟨w4, hw4⟩ : ∃ w4 : World, w4 = wr := ⟨_, rfl⟩
        subst hw4
        obtain ⟨acc1, hac1⟩ : ∃ acc1, acc1 = acc := ⟨_, rfl⟩
        subst hac1
        have HmL := Lib.hid hml
        have HX3b := Lib.hid HX.out
        have HX4 := Lib.hid (HX3.out.trans HX.out)
        have HS4 : Hid (∀ b, (fun b => b < w4.heap.size) b → b < w4.heap.size) := Lib.hid fun _ h => h
        have HAcc1 := Lib.hid HAcc2.out
        clear hml HO HAcc2 HX
        go_wp2_with fail
        go_loopw [8, 12] (fun out' i' wr => ∃ (j : Nat) (z : Int) (acc : List Ent), j ≤ acc1.length ∧ i' = .int .i64 z ∧ z + 1 = j ∧ acc.length + j ≤ acc1.length ∧ Hid (acc = backE (acc1.drop j)) ∧ Hid (OwnL entR 37 w4.heap.size wr out' acc) ∧ Hid (Ext w4 wr)) (fun _ i' _ => (intOf i' + 1).toNat)
        case atStart => exact ⟨acc1.length, _, [], Nat.le_refl _, rfl, by omega, by simp, Lib.hid (by simp [backE]), Lib.hid OwnL.nil, Lib.hid (Ext.refl _)⟩
        case round =>
          obtain ⟨j, z, acc, hj, rfl, hz, hal, HAcc, HO, HX⟩ := hrel
          cases j with
          | zero =>
            obtain rfl : z = -1 := by omega
            have HAcc2 : Hid (acc = backE acc1) := Lib.hid (by have h := HAcc.out; rwa [List.drop_zero] at h)
            clear HAcc hz hj
            have HwR := Lib.hid (HO.out.rows (by rw [LIM_eq]; omega))
            have hback : acc = l := by rw [HAcc2.out, HAcc1.out, backE_back]
            have HX45 := Lib.hid HX.out
            have HX5 := Lib.hid (HX4.out.trans HX.out)
            obtain ⟨w5, hw5⟩ : ∃ w5 : World, w5 = wr := ⟨_, rfl⟩
            subst hw5
            subst hback
            have hsize45 := HX.out.size
            have HRb := Lib.hid (HmR.out.alike (Alike.of_ext HX.out fun _ h => h))
            have HDm : Hid (∀ e ∈ acc1, e.av.dep ≤ 1000000) := Lib.hid (by rw [HAcc1.out]; exact (backE_small (M := 20) HP.out (fun e he => HD.out e he)).2)
            have ha20 : acc1.length ≤ 20 := by omega
            clear HO HX HAcc2 HmR hal
            go_wp2_with fail
            refine (canE_ok (fun b => b < w4.heap.size) acc1 _ w5 (fun b hb => Nat.lt_of_lt_of_le hb hsize45) HRb.out (by omega) (fun e he => by have := HPm.out e he; omega) HDm.out).mono ?_
            rintro e w6 ⟨vb, rfl, hvb, hx6⟩
            have HVb := Lib.hid hvb
            have HX6 := Lib.hid (HX5.out.trans hx6)
            have HX56 := Lib.hid hx6
            generalize hfr : (canonE acc1).2 = fr at *
            have hiff : er = 0 ↔ fr = 0 := by
              rw [← HEr.out, ← hfr, HAcc1.out]
              exact (backE_alter acc).iff
            have HIff := Lib.hid hiff
            clear hvb hx6 hfr hiff
            go_wp2_with fail
            refine (wholeE_ok (fun b => b < w6.heap.size) acc _ _ w6 (fun _ h => h) ((HR.out.alike (Alike.of_ext HX6.out fun _ h => h)).mono fun b hb => Nat.lt_of_lt_of_le hb HX6.out.size) ((HwR.out.alike (Alike.of_ext HX56.out fun _ h => h)).mono fun b hb => Nat.lt_of_lt_of_le hb HX56.out.size)).mono ?_
            rintro e w7 ⟨rfl, hx7⟩
            have HX7 := Lib.hid (HX6.out.trans hx7)
            have HX67 := Lib.hid hx7
            clear hx7
            by_cases h0 : er = 0
            · have hf0 : fr = 0 := HIff.out.1 h0
              subst h0
              subst hf0
              have HG := Lib.hid (canonE_iff.1 HEr.out)
              have hlA : (canonE acc).1.length = acc.length := canonE_length HG.out
              have hlm : (canonE acc1).1 = (canonE acc).1 := by rw [HAcc1.out]; exact (backE_alter acc).same HG.out
              have HSm := Lib.hid (canonE_small HG.out (M := 20) (D := 1000000) HP.out HD.out)
              have HX37 : Hid (Ext w3 w7) := Lib.hid ((HX3b.out.trans HX45.out).trans (HX56.out.trans HX67.out))
              have hra := ents_rows HVa.out (by rw [LIM_eq, hlA]; omega)
              have hrb := ents_rows HVb.out (by rw [LIM_eq, hlm, hlA]; omega)
              rw [hlm] at hrb
              have HRa := Lib.hid ((hra.alike (Alike.of_ext HX37.out fun _ h => h)).mono fun b hb => Nat.lt_of_lt_of_le hb HX37.out.size)
              have HRB := Lib.hid ((hrb.alike (Alike.of_ext HX67.out fun _ h => h)).mono fun b hb => Nat.lt_of_lt_of_le hb HX67.out.size)
              have hcall := canE_ok (fun b => b < w7.heap.size) (canonE acc).1 va w7 (fun _ h => h) HRa.out (by rw [hlA]; omega) (fun e he => by have := HSm.out.1 e he; omega) HSm.out.2
              rw [canonE_again HG.out] at hcall
              have HCall := Lib.hid hcall
              have HLA := Lib.hid hlA
              clear hlA hlm hra hrb hcall
              go_wp2_with fail
              refine HCall.out.mono ?_
              rintro e w8 ⟨vc, rfl, hvc, hx8⟩
              have HX8 := Lib.hid hx8
              have HRc := Lib.hid (ents_rows hvc (by rw [LIM_eq, HLA.out]; omega))
              clear hvc hx8 HCall
              go_wp2_with fail
              refine (wholeE_ok (fun b => b < w8.heap.size) (canonE acc).1 _ _ w8 (fun _ h => h) ((HRa.out.alike (Alike.of_ext HX8.out fun _ h => h)).mono fun b hb => Nat.lt_of_lt_of_le hb HX8.out.size) ((HRB.out.alike (Alike.of_ext HX8.out fun _ h => h)).mono fun b hb => Nat.lt_of_lt_of_le hb HX8.out.size)).mono ?_
              rintro e w9 ⟨rfl, hx9⟩
              have HX9 := Lib.hid hx9
              clear hx9
              go_wp2_with fail
              refine (wholeE_ok (fun b => b < w9.heap.size) (canonE acc).1 _ _ w9 (fun _ h => h) ((HRa.out.alike (Alike.of_ext (HX8.out.trans HX9.out) fun _ h => h)).mono fun b hb => Nat.lt_of_lt_of_le hb (HX8.out.trans HX9.out).size) ((HRc.out.alike (Alike.of_ext HX9.out fun _ h => h)).mono fun b hb => Nat.lt_of_lt_of_le hb HX9.out.size)).mono ?_
              rintro e w10 ⟨rfl, hx10⟩
              have HX10 := Lib.hid hx10
              clear hx10
              go_wp2_with fail
              go_ret
              exact ⟨rfl, HX7.out.trans (HX8.out.trans (HX9.out.trans HX10.out))⟩
            · have hf0 : ¬ fr = 0 := fun h => h0 (HIff.out.2 h)
              have e1 : (er == 0) = false := by simpa using h0
              have e2 : (fr == 0) = false := by simpa using hf0
              have e3 : (er != 0) = true := by simpa using h0
              clear h0 hf0
              go_wp2_with fail
              go_ret
              exact ⟨rfl, HX7.out⟩
          | succ k =>
            obtain rfl : z = (k : Int) := by omega
            clear hz
            obtain ⟨b, o, rfl, hSb, hrow⟩ := HmL.out (by omega)
            obtain ⟨x, hx⟩ : ∃ x, acc1[k]? = some x := ⟨_, List.getElem?_eq_getElem (by omega)⟩
            obtain ⟨cs, hca, hxa⟩ := hrow k x hx
            obtain ⟨_, _, hu, hfu, ⟨pv, k2, hpv⟩, acs, hac, hat, _⟩ := ent_cells (hca.alike hSb (Alike.of_ext HX.out HS4.out)) (entR.alike hxa (Alike.of_ext HX.out HS4.out))
            have Hb0 := Lib.hid (HS4.out b hSb)
            obtain ⟨A1, c1, rfl, ⟨p0, p1, p2⟩, hpr⟩ := hpv
            rw [maxLen_eq] at p2
            obtain ⟨ka, ba, na, ta, uta, uia, Aa, la, ca, Ab, lb, cb, rfl⟩ := hat.shape
            have hp20 : x.ps.length ≤ 20 := HPm.out x (List.mem_of_getElem? hx)
            have Hx := Lib.hid hx
            have Hac := Lib.hid (show CellsAt wr b (o + k * 11 + 3) _ from hac)
            have Hu := Lib.hid (show CellsAt wr b (o + k * 11) _ from hu)
            have Hat := Lib.hid hat
            have HFu := Lib.hid hfu
            have K2 := Lib.hid (show wr.cell? ⟨b, o + k * 11 + 2, none⟩ = _ from k2)
            have k2' : wr.cell? ⟨b, o + k * 11 + 2, none⟩ = _ := K2.out
            have HPr := Lib.hid hpr
            have HbS := Lib.hid (Nat.lt_of_lt_of_le (HS4.out b hSb) HX.out.size)
            clear hx hca hxa hrow hu hac hat hfu k2 hpr p0 hSb
            go_wp2_with fail
            obtain ⟨wo, hwo⟩ : ∃ wo : World, wo = wr := ⟨_, rfl⟩
            subst hwo
            go_loopw [13, 14] (fun p' q' wr => ∃ (q : Nat) (z : Int) (ac2 : List Uid), q ≤ x.ps.length ∧ q' = .int .i64 z ∧ z + 1 = q ∧ ac2.length + q ≤ x.ps.length ∧ Hid (ac2 = (x.ps.drop q).reverse) ∧ Hid (OwnL uidR 31 wo.heap.size wr p' ac2) ∧ Hid (Ext wo wr)) (fun _ q' _ => (intOf q' + 1).toNat)
            case atStart => exact ⟨x.ps.length, _, [], Nat.le_refl _, rfl, by omega, by simp, Lib.hid (by simp), Lib.hid OwnL.nil, Lib.hid (Ext.refl _)⟩
            case round =>
              clear k2'
              obtain ⟨q, z, ac2, hq, rfl, hz, hal2, HAc2, HO2, HX2⟩ := hrel
              cases q with
              | zero =>
                obtain rfl : z = -1 := by omega
                have HAc3 : Hid (ac2 = x.ps.reverse) := Lib.hid (by have h := HAc2.out; rwa [List.drop_zero] at h)
                clear HAc2 hz hq
                go_wp2_with fail
                have hE0 : (0 : Nat) < 3 := by omega
                clear hE0
                obtain ⟨Ap, cp, ep⟩ := HO2.out.shape
                subst ep
                have HXw := Lib.hid (HX.out.trans HX2.out)
                have HOw := Lib.hid (HO.out.ext HX2.out)
                have hal3 : ac2.length ≤ 20 := by omega
                refine staged_region 15 [13, 14] [u8, .slice (some ⟨b, o, none⟩) acc1.length cm, .int .i64 k, .pointer (some ⟨b, o + k * 11, none⟩), .pointer (some ⟨b, o + k * 11, none⟩), .agg #[.string x.uid.1, .string x.uid.2], .slice Ap ac2.length cp, .slice (some ⟨b, o, none⟩) acc1.length cm, .int .i64 k, .pointer (some ⟨b, o + k * 11, none⟩), .pointer (some ⟨b, o + k * 11 + 3, none⟩),
                  .agg #[.int .i64 ka, .bool ba, .int .i64 na, .string ta, .string uta, .string uia, .slice Aa la ca, .slice Ab lb cb], .agg (entCells x.uid (.slice Ap ac2.length cp) [.int .i64 ka, .bool ba, .int .i64 na, .string ta, .string uta, .string uia, .slice Aa la ca, .slice Ab lb cb]).toArray, undef, undef]
                  (StageT wr (entCells x.uid (.slice Ap ac2.length cp) [.int .i64 ka, .bool ba, .int .i64 na, .string ta, .string uta, .string uia, .slice Aa la ca, .slice Ab lb cb]) w4.heap.size u8 acc ⟨x.uid, ac2, x.av⟩) (by kernel_rfl) (by kernel_rfl) (by kernel_rfl) (by kernel_rfl)
                  (StageT.start wr) (fun i op hi hn ho vs W a hRR hold hat => ?_) (fun k' i op hk ho vs W a hvl hRR hold hat Q' K hK => ?_) ?_
                · have hbw : W.heap[b]? = wo.heap[b]? := (hRR.old b (Nat.lt_of_lt_of_le HbS.out HX2.out.size) (fun e => by have := (HO.out.lt b e).1; have := Hb0.out; omega)).trans (HX2.out.block b HbS.out)
                  rcases (by simp at hn; omega : i = 0 ∨ i = 1 ∨ i = 2 ∨ i = 3 ∨ i = 4 ∨ i = 5 ∨ i = 6 ∨ i = 7 ∨ i = 8 ∨ i = 9 ∨ i = 10 ∨ i = 11 ∨ i = 12) with rfl | rfl | rfl | rfl | rfl | rfl | rfl | rfl | rfl | rfl | rfl | rfl | rfl <;> obtain rfl := Option.some.inj ho
                  · exact exec_move rfl (hold 8 (by kernel_rfl))
                  · exact exec_move rfl (hold 7 (by kernel_rfl))
                  · exact exec_move rfl (hold 12 (by kernel_rfl))
                  · exact exec_index (i := k) rfl (hat 1 105 (by omega) (by kernel_rfl) (by kernel_rfl)) (hat 2 106 (by omega) (by kernel_rfl) (by kernel_rfl)) Tryz.underlying22 Tryz.size60 (by omega)
                  · exact exec_field _ _ _ rfl (hat 3 107 (by omega) (by kernel_rfl) (by kernel_rfl)) (Tryz.fieldE0 b _)
                  · exact exec_load_cells _ _ rfl b _ (hat 4 108 (by omega) (by kernel_rfl) (by kernel_rfl)) (cs := [.string x.uid.1, .string x.uid.2]) Tryz.agg23 Tryz.size23 rfl (Hu.out.alike (S := fun c => c = b) rfl (fun c hc => by subst hc; exact hbw))
                  · exact exec_move rfl (hold 13 (by kernel_rfl))
                  · exact exec_move rfl (hold 7 (by kernel_rfl))
                  · exact exec_move rfl (hold 12 (by kernel_rfl))
                  · exact exec_index (i := k) rfl (hat 7 111 (by omega) (by kernel_rfl) (by kernel_rfl)) (hat 8 112 (by omega) (by kernel_rfl) (by kernel_rfl)) Tryz.underlying22 Tryz.size60 (by omega)
                  · exact exec_field _ _ _ rfl (hat 9 113 (by omega) (by kernel_rfl) (by kernel_rfl)) (Tryz.fieldE2 b _)
                  · exact exec_load_cells _ _ rfl b _ (hat 10 114 (by omega) (by kernel_rfl) (by kernel_rfl)) (cs := [.int .i64 ka, .bool ba, .int .i64 na, .string ta, .string uta, .string uia, .slice Aa la ca, .slice Ab lb cb]) Tryz.agg27 Tryz.size27 rfl (Hac.out.alike (S := fun c => c = b) rfl (fun c hc => by subst hc; exact hbw))
                  · refine exec_build_agg _ _ rfl (vals := [(0, .agg #[.string x.uid.1, .string x.uid.2]), (1, .slice Ap ac2.length cp), (2, .agg #[.int .i64 ka, .bool ba, .int .i64 na, .string ta, .string uta, .string uia, .slice Aa la ca, .slice Ab lb cb])]) ?_ (Tryz.built60 _ _ _ _ _ _ _ _ _ _ _ _ _ _ _ _ _)
                    have h2 := hat 5 109 (by omega) (by kernel_rfl) (by kernel_rfl)
                    have h4 := hat 6 110 (by omega) (by kernel_rfl) (by kernel_rfl)
                    have h5 := hat 11 115 (by omega) (by kernel_rfl) (by kernel_rfl)
                    simp only [List.map_toArray, List.map_cons, List.map_nil, h2, h4, h5]
                    rfl
                · have hk4 : k' < 2 := by simpa using (List.getElem?_eq_some_iff.1 hk).1
                  rcases (by omega : k' = 0 ∨ k' = 1) with rfl | rfl <;> obtain rfl := Option.some.inj hk <;> obtain rfl := Option.some.inj ho
                  · obtain rfl := List.eq_nil_of_length_eq_zero hvl
                    have h6 := hat 12 116 (by omega) (by kernel_rfl) (by kernel_rfl)
                    exact wp_value2 (exec_build _ _ rfl h6 (Tryz.build57 _ _ _ _ _ _ _ _ _ _ _ W)) (hK _ _ ⟨W, hRR, rfl, rfl⟩)
                  · obtain ⟨v1, rfl⟩ := lst1 hvl
                    obtain ⟨W1, hW1, rfl, rfl⟩ := hRR
                    have h0 := hat 0 104 (by omega) (by kernel_rfl) (by kernel_rfl)
                    have h7 := hat 13 117 (by omega) (by kernel_rfl) (by kernel_rfl)
                    refine wp_push (.tmp 104) (.tmp 117) 22 rfl entR w4.heap.size 37 i0 _ 176 Tryz.underlying22 hi0 hz0 hz1 hz2 rfl u8 acc W1 37 ⟨x.uid, ac2, x.av⟩ (entCells x.uid (.slice Ap ac2.length cp) [.int .i64 ka, .bool ba, .int .i64 na, .string ta, .string uta, .string uia, .slice Aa la ca, .slice Ab lb cb]) h0 h7 (HOw.out.ext hW1) ?_ (by rw [maxLen_eq]; omega) (by omega) (Nat.le_trans HXw.out.size hW1.size) (fun v' w' ho hg => hK _ _ ⟨W1, hW1, ho, hg⟩)
                    have hsz := HX2.out.size
                    have hsz1 := hW1.size
                    have hsz0 := HX.out.size
                    refine ⟨_, _, rfl, HFu.out, ?_, ?_⟩
                    · obtain ⟨xs, o1, o2⟩ := HO2.out.ext hW1
                      refine own_rows (R := uidR) o1 (uidFlat_any (S' := fun _ => False) o2) (by rw [LIM_eq]; show ac2.length ≤ _; omega) (fun b hb => hb.elim) fun c hc => ⟨(o1.lt c hc).2, fun e => ?_⟩
                      have h1 := (HO2.out.lt c hc).1
                      have h2 := (HO.out.lt c e).2
                      omega
                    · refine Val.At.mono (S := (fun b => b < w4.heap.size)) ?_ _ _ (Hat.out.alike (Alike.of_ext (HX2.out.trans hW1) fun c hc => Nat.lt_of_lt_of_le (HS4.out c hc) hsz0))
                      intro c hc
                      have h1 := HS4.out c hc
                      exact ⟨by omega, fun e => by have := (HO.out.lt c e).1; omega⟩
                · intro zs vs W hzl hvl hRR hzs
                  obtain ⟨v1, v2, rfl⟩ := lst2 hvl
                  have h14 : zs.getD 14 undef = v2 := hzs 14 (by omega)
                  obtain ⟨z0, z1, z2, z3, z4, z5, z6, z7, z8, z9, z10, z11, z12, z13, z14, rfl⟩ := lst15 hzl
                  have h14 : z14 = v2 := h14
                  subst h14
                  obtain ⟨W1, hW1, hO3, hg3⟩ := hRR
                  have hx3 : Ext w4 W := ext_apart (HXw.out.trans hW1) hg3 fun c hc => (HO.out.lt c hc).1
                  have HO3 := Lib.hid hO3
                  have HX3 := Lib.hid hx3
                  clear hzs hzl hvl hW1 hO3 hg3 hx3
                  simp only [List.take, List.drop, putAll]
                  go_wp2_with fail
                  go_roundw
                  case rel => exact ⟨k, _, acc ++ [⟨x.uid, ac2, x.av⟩], by omega, rfl, by omega, by simp; omega, Lib.hid (by
                    rw [HAcc.out, HAc3.out]
                    obtain ⟨h1, h2⟩ := List.getElem?_eq_some_iff.1 Hx.out
                    rw [List.drop_eq_getElem_cons h1, h2]
                    simp [backE]), HO3, HX3⟩
                  case measure => simp [intOf]
              | succ m =>
                obtain rfl : z = (m : Int) := by omega
                clear hz
                obtain ⟨b2, o2, rfl, hSb2, hrow2⟩ := HPr.out (by omega)
                obtain ⟨y, hy⟩ : ∃ y, x.ps[m]? = some y := ⟨_, List.getElem?_eq_getElem (by omega)⟩
                obtain ⟨cs2, hca2, rfl, hfy⟩ := hrow2 m y hy
                have hb2 : b2 < wo.heap.size := Nat.lt_of_lt_of_le (HS4.out b2 hSb2) HX.out.size
                have c0 : wr.cell? ⟨b2, o2 + m * 2, none⟩ = some (.string y.1) := HX2.out.cell (hca2 0 _ rfl)
                have c1' : wr.cell? ⟨b2, o2 + m * 2 + 1, none⟩ = some (.string y.2) := HX2.out.cell (hca2 1 _ rfl)
                have k3 : wr.cell? ⟨b, o + k * 11 + 2, none⟩ = _ := HX2.out.cell K2.out
                have Hy := Lib.hid hy
                have HFy := Lib.hid hfy
                clear hy hca2 hrow2 hfy
                go_wp2_with (at_builtin; refine wpList_push rfl (.tmp 93) (.tmp 102) 29 rfl uidR wo.heap.size 31 iu _ 32 Tryz.underlying29 hiu uz0 uz1 uz2 rfl u13 ac2 wr 31 y [.string y.1, .string y.2] rfl rfl HO2.out ⟨rfl, HFy.out⟩ (by rw [maxLen_eq]; omega) (by omega) HX2.out.size ?_)
                intro v2 w2 hown2 hgr2
                have hx2 : Ext wo w2 := ext_apart HX2.out hgr2 fun b hb => (HO2.out.lt b hb).1
                have HO3 := Lib.hid hown2
                have HX3 := Lib.hid hx2
                clear hown2 hgr2 hx2 c0 c1' k3
                go_wp2_with fail
                go_roundw
                case rel => exact ⟨m, _, ac2 ++ [y], by omega, rfl, by omega, by simp; omega, Lib.hid (by
                  rw [HAc2.out]
                  obtain ⟨h1, h2⟩ := List.getElem?_eq_some_iff.1 Hy.out
                  rw [List.drop_eq_getElem_cons h1, h2, List.reverse_cons]), HO3, HX3⟩
                case measure => simp [intOf]
      | succ k =>
        obtain rfl : z = (k : Int) := by omega
        clear hz
        obtain ⟨b, o, rfl, hSb, hrow⟩ := HL3.out (by omega)
        obtain ⟨x, hx⟩ : ∃ x, l[k]? = some x := ⟨_, List.getElem?_eq_getElem (by omega)⟩
        obtain ⟨cs, hca, hxa⟩ := hrow k x hx
        obtain ⟨_, _, hu, hfu, ⟨pv, k2, hpv⟩, acs, hac, hat, _⟩ := ent_cells (hca.alike hSb (Alike.of_ext HX.out HS3.out)) (entR.alike hxa (Alike.of_ext HX.out HS3.out))
        have Hb0 := Lib.hid (HS3.out b hSb)
        obtain ⟨A1, c1, rfl, ⟨p0, p1, p2⟩, hpr⟩ := hpv
        rw [maxLen_eq] at p2
        obtain ⟨ka, ba, na, ta, uta, uia, Aa, la, ca, Ab, lb, cb, rfl⟩ := hat.shape
        have hp20 : x.ps.length ≤ 20 := HP.out x (List.mem_of_getElem? hx)
        have Hx := Lib.hid hx
        have Hac := Lib.hid (show CellsAt wr b (o + k * 11 + 3) _ from hac)
        have Hu := Lib.hid (show CellsAt wr b (o + k * 11) _ from hu)
        have Hat := Lib.hid hat
        have HFu := Lib.hid hfu
        have K2 := Lib.hid (show wr.cell? ⟨b, o + k * 11 + 2, none⟩ = _ from k2)
        have k2' : wr.cell? ⟨b, o + k * 11 + 2, none⟩ = _ := K2.out
        have HPr := Lib.hid hpr
        have HbS := Lib.hid (Nat.lt_of_lt_of_le (HS3.out b hSb) HX.out.size)
        clear hx hca hxa hrow hu hac hat hfu k2 hpr p0 hSb
        go_wp2_with fail
        obtain ⟨wo, hwo⟩ : ∃ wo : World, wo = wr := ⟨_, rfl⟩
        subst hwo
        go_loopw [10, 11] (fun p' q' wr => ∃ (q : Nat) (z : Int) (ac2 : List Uid), q ≤ x.ps.length ∧ q' = .int .i64 z ∧ z + 1 = q ∧ ac2.length + q ≤ x.ps.length ∧ Hid (ac2 = (x.ps.drop q).reverse) ∧ Hid (OwnL uidR 31 wo.heap.size wr p' ac2) ∧ Hid (Ext wo wr)) (fun _ q' _ => (intOf q' + 1).toNat)
        case atStart => exact ⟨x.ps.length, _, [], Nat.le_refl _, rfl, by omega, by simp, Lib.hid (by simp), Lib.hid OwnL.nil, Lib.hid (Ext.refl _)⟩
        case round =>
          clear k2'
          obtain ⟨q, z, ac2, hq, rfl, hz, hal2, HAc2, HO2, HX2⟩ := hrel
          cases q with
          | zero =>
            obtain rfl : z = -1 := by omega
            have HAc3 : Hid (ac2 = x.ps.reverse) := Lib.hid (by have h := HAc2.out; rwa [List.drop_zero] at h)
            clear HAc2 hz hq
            go_wp2_with fail
            have hE0 : (0 : Nat) < 2 := by omega
            clear hE0
            obtain ⟨Ap, cp, ep⟩ := HO2.out.shape
            subst ep
            have HXw := Lib.hid (HX.out.trans HX2.out)
            have HOw := Lib.hid (HO.out.ext HX2.out)
            have hal3 : ac2.length ≤ 20 := by omega
            refine staged_region 15 [13, 14] [u7, .slice (some ⟨b, o, none⟩) l.length cap, .int .i64 k, .pointer (some ⟨b, o + k * 11, none⟩), .pointer (some ⟨b, o + k * 11, none⟩), .agg #[.string x.uid.1, .string x.uid.2], .slice Ap ac2.length cp, .slice (some ⟨b, o, none⟩) l.length cap, .int .i64 k, .pointer (some ⟨b, o + k * 11, none⟩), .pointer (some ⟨b, o + k * 11 + 3, none⟩),
              .agg #[.int .i64 ka, .bool ba, .int .i64 na, .string ta, .string uta, .string uia, .slice Aa la ca, .slice Ab lb cb], .agg (entCells x.uid (.slice Ap ac2.length cp) [.int .i64 ka, .bool ba, .int .i64 na, .string ta, .string uta, .string uia, .slice Aa la ca, .slice Ab lb cb]).toArray, undef, undef]
              (StageT wr (entCells x.uid (.slice Ap ac2.length cp) [.int .i64 ka, .bool ba, .int .i64 na, .string ta, .string uta, .string uia, .slice Aa la ca, .slice Ab lb cb]) w3.heap.size u7 acc ⟨x.uid, ac2, x.av⟩) (by kernel_rfl) (by kernel_rfl) (by kernel_rfl) (by kernel_rfl)
              (StageT.start wr) (fun i op hi hn ho vs W a hRR hold hat => ?_) (fun k' i op hk ho vs W a hvl hRR hold hat Q' K hK => ?_) ?_
            · have hbw : W.heap[b]? = wo.heap[b]? := (hRR.old b (Nat.lt_of_lt_of_le HbS.out HX2.out.size) (fun e => by have := (HO.out.lt b e).1; have := Hb0.out; omega)).trans (HX2.out.block b HbS.out)
              rcases (by simp at hn; omega : i = 0 ∨ i = 1 ∨ i = 2 ∨ i = 3 ∨ i = 4 ∨ i = 5 ∨ i = 6 ∨ i = 7 ∨ i = 8 ∨ i = 9 ∨ i = 10 ∨ i = 11 ∨ i = 12) with rfl | rfl | rfl | rfl | rfl | rfl | rfl | rfl | rfl | rfl | rfl | rfl | rfl <;> obtain rfl := Option.some.inj ho
              · exact exec_move rfl (hold 7 (by kernel_rfl))
              · exact exec_move rfl (hold 0 (by kernel_rfl))
              · exact exec_move rfl (hold 9 (by kernel_rfl))
              · exact exec_index (i := k) rfl (hat 1 61 (by omega) (by kernel_rfl) (by kernel_rfl)) (hat 2 62 (by omega) (by kernel_rfl) (by kernel_rfl)) Tryz.underlying22 Tryz.size60 (by omega)
              · exact exec_field _ _ _ rfl (hat 3 63 (by omega) (by kernel_rfl) (by kernel_rfl)) (Tryz.fieldE0 b _)
              · exact exec_load_cells _ _ rfl b _ (hat 4 64 (by omega) (by kernel_rfl) (by kernel_rfl)) (cs := [.string x.uid.1, .string x.uid.2]) Tryz.agg23 Tryz.size23 rfl (Hu.out.alike (S := fun c => c = b) rfl (fun c hc => by subst hc; exact hbw))
              · exact exec_move rfl (hold 10 (by kernel_rfl))
              · exact exec_move rfl (hold 0 (by kernel_rfl))
              · exact exec_move rfl (hold 9 (by kernel_rfl))
              · exact exec_index (i := k) rfl (hat 7 67 (by omega) (by kernel_rfl) (by kernel_rfl)) (hat 8 68 (by omega) (by kernel_rfl) (by kernel_rfl)) Tryz.underlying22 Tryz.size60 (by omega)
              · exact exec_field _ _ _ rfl (hat 9 69 (by omega) (by kernel_rfl) (by kernel_rfl)) (Tryz.fieldE2 b _)
              · exact exec_load_cells _ _ rfl b _ (hat 10 70 (by omega) (by kernel_rfl) (by kernel_rfl)) (cs := [.int .i64 ka, .bool ba, .int .i64 na, .string ta, .string uta, .string uia, .slice Aa la ca, .slice Ab lb cb]) Tryz.agg27 Tryz.size27 rfl (Hac.out.alike (S := fun c => c = b) rfl (fun c hc => by subst hc; exact hbw))
              · refine exec_build_agg _ _ rfl (vals := [(0, .agg #[.string x.uid.1, .string x.uid.2]), (1, .slice Ap ac2.length cp), (2, .agg #[.int .i64 ka, .bool ba, .int .i64 na, .string ta, .string uta, .string uia, .slice Aa la ca, .slice Ab lb cb])]) ?_ (Tryz.built60 _ _ _ _ _ _ _ _ _ _ _ _ _ _ _ _ _)
                have h2 := hat 5 65 (by omega) (by kernel_rfl) (by kernel_rfl)
                have h4 := hat 6 66 (by omega) (by kernel_rfl) (by kernel_rfl)
                have h5 := hat 11 71 (by omega) (by kernel_rfl) (by kernel_rfl)
                simp only [List.map_toArray, List.map_cons, List.map_nil, h2, h4, h5]
                rfl
            · have hk4 : k' < 2 := by simpa using (List.getElem?_eq_some_iff.1 hk).1
              rcases (by omega : k' = 0 ∨ k' = 1) with rfl | rfl <;> obtain rfl := Option.some.inj hk <;> obtain rfl := Option.some.inj ho
              · obtain rfl := List.eq_nil_of_length_eq_zero hvl
                have h6 := hat 12 72 (by omega) (by kernel_rfl) (by kernel_rfl)
                exact wp_value2 (exec_build _ _ rfl h6 (Tryz.build57 _ _ _ _ _ _ _ _ _ _ _ W)) (hK _ _ ⟨W, hRR, rfl, rfl⟩)
              · obtain ⟨v1, rfl⟩ := lst1 hvl
                obtain ⟨W1, hW1, rfl, rfl⟩ := hRR
                have h0 := hat 0 60 (by omega) (by kernel_rfl) (by kernel_rfl)
                have h7 := hat 13 73 (by omega) (by kernel_rfl) (by kernel_rfl)
                refine wp_push (.tmp 60) (.tmp 73) 22 rfl entR w3.heap.size 37 i0 _ 176 Tryz.underlying22 hi0 hz0 hz1 hz2 rfl u7 acc W1 37 ⟨x.uid, ac2, x.av⟩ (entCells x.uid (.slice Ap ac2.length cp) [.int .i64 ka, .bool ba, .int .i64 na, .string ta, .string uta, .string uia, .slice Aa la ca, .slice Ab lb cb]) h0 h7 (HOw.out.ext hW1) ?_ (by rw [maxLen_eq]; omega) (by omega) (Nat.le_trans HXw.out.size hW1.size) (fun v' w' ho hg => hK _ _ ⟨W1, hW1, ho, hg⟩)
                have hsz := HX2.out.size
                have hsz1 := hW1.size
                have hsz0 := HX.out.size
                refine ⟨_, _, rfl, HFu.out, ?_, ?_⟩
                · obtain ⟨xs, o1, o2⟩ := HO2.out.ext hW1
                  refine own_rows (R := uidR) o1 (uidFlat_any (S' := fun _ => False) o2) (by rw [LIM_eq]; show ac2.length ≤ _; omega) (fun b hb => hb.elim) fun c hc => ⟨(o1.lt c hc).2, fun e => ?_⟩
                  have h1 := (HO2.out.lt c hc).1
                  have h2 := (HO.out.lt c e).2
                  omega
                · refine Val.At.mono (S := (fun b => b < W.heap.size)) ?_ _ _ (Hat.out.alike (Alike.of_ext (HX2.out.trans hW1) fun c hc => Nat.lt_of_lt_of_le (HS3.out c hc) hsz0))
                  intro c hc
                  have h1 := HS3.out c hc
                  exact ⟨by omega, fun e => by have := (HO.out.lt c e).1; omega⟩
            · intro zs vs W hzl hvl hRR hzs
              obtain ⟨v1, v2, rfl⟩ := lst2 hvl
              have h14 : zs.getD 14 undef = v2 := hzs 14 (by omega)
              obtain ⟨z0, z1, z2, z3, z4, z5, z6, z7, z8, z9, z10, z11, z12, z13, z14, rfl⟩ := lst15 hzl
              have h14 : z14 = v2 := h14
              subst h14
              obtain ⟨W1, hW1, hO3, hg3⟩ := hRR
              have hx3 : Ext w3 W := ext_apart (HXw.out.trans hW1) hg3 fun c hc => (HO.out.lt c hc).1
              have HO3 := Lib.hid hO3
              have HX3 := Lib.hid hx3
              clear hzs hzl hvl hW1 hO3 hg3 hx3
              simp only [List.take, List.drop, putAll]
              go_wp2_with fail
              go_roundw
              case rel => exact ⟨k, _, acc ++ [⟨x.uid, ac2, x.av⟩], by omega, rfl, by omega, by simp; omega, Lib.hid (by
                rw [HAcc.out, HAc3.out]
                obtain ⟨h1, h2⟩ := List.getElem?_eq_some_iff.1 Hx.out
                rw [List.drop_eq_getElem_cons h1, h2]
                simp [backE]), HO3, HX3⟩
              case measure => simp [intOf]
          | succ m =>
            obtain rfl : z = (m : Int) := by omega
            clear hz
            obtain ⟨b2, o2, rfl, hSb2, hrow2⟩ := HPr.out (by omega)
            obtain ⟨y, hy⟩ : ∃ y, x.ps[m]? = some y := ⟨_, List.getElem?_eq_getElem (by omega)⟩
            obtain ⟨cs2, hca2, rfl, hfy⟩ := hrow2 m y hy
            have hb2 : b2 < wo.heap.size := Nat.lt_of_lt_of_le (HS3.out b2 hSb2) HX.out.size
            have c0 : wr.cell? ⟨b2, o2 + m * 2, none⟩ = some (.string y.1) := HX2.out.cell (hca2 0 _ rfl)
            have c1' : wr.cell? ⟨b2, o2 + m * 2 + 1, none⟩ = some (.string y.2) := HX2.out.cell (hca2 1 _ rfl)
            have k3 : wr.cell? ⟨b, o + k * 11 + 2, none⟩ = _ := HX2.out.cell K2.out
            have Hy := Lib.hid hy
            have HFy := Lib.hid hfy
            clear hy hca2 hrow2 hfy
            go_wp2_with (at_builtin; refine wpList_push rfl (.tmp 49) (.tmp 58) 29 rfl uidR wo.heap.size 31 iu _ 32 Tryz.underlying29 hiu uz0 uz1 uz2 rfl u10 ac2 wr 31 y [.string y.1, .string y.2] rfl rfl HO2.out ⟨rfl, HFy.out⟩ (by rw [maxLen_eq]; omega) (by omega) HX2.out.size ?_)
            intro v2 w2 hown2 hgr2
            have hx2 : Ext wo w2 := ext_apart HX2.out hgr2 fun b hb => (HO2.out.lt b hb).1
            have HO3 := Lib.hid hown2
            have HX3 := Lib.hid hx2
            clear hown2 hgr2 hx2 c0 c1' k3
            go_wp2_with fail
            go_roundw
            case rel => exact ⟨m, _, ac2 ++ [y], by omega, rfl, by omega, by simp; omega, Lib.hid (by
              rw [HAc2.out]
              obtain ⟨h1, h2⟩ := List.getElem?_eq_some_iff.1 Hy.out
              rw [List.drop_eq_getElem_cons h1, h2, List.reverse_cons]), HO3, HX3⟩
            case measure => simp [intOf]
end Go.Proofs.YtjllolagcdjlnaaGreat
