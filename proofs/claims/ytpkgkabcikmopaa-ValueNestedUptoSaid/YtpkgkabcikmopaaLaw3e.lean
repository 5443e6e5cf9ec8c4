/-
  The walk of layer 3's law ValueNested: it answers true. The conditions: the arguments are a value that lies in old memory, and a byte.
-/
import Derived.Test.YtpkgkabcikmopaaLaw3a
import Derived.Test.YtpkgkabcikmopaaRead2
import Derived.Test.YtpkgkabcikmopaaLawsP
namespace Go.Proofs.Ytpkgkabcikmopaa
open Go.RowKit

theorem byte_in {n : Int} (h : (Lit.int .u8 n).wf = true) : 0 ≤ n ∧ n ≤ 255 := by
  simpa [Lit.wf, IntKind.min, IntKind.max, IntKind.signed, IntKind.bits] using h
/-- in so many sets -/
def nest : Nat → Val → Val
  | 0, v => v
  | k + 1, v => Val.setV [nest k v]
theorem nest_dep (v : Val) : ∀ k, (nest k v).dep = v.dep + k
  | 0 => rfl
  | k + 1 => by
    have := nest_dep v k
    simp only [nest, Val.setV_dep, Val.deps]; omega
theorem nest_can (v : Val) : ∀ k, (nest k v).can.2 = v.can.2
  | 0 => rfl
  | k + 1 => by
    have ih := nest_can v k
    simp only [nest]
    unfold Val.setV
    rw [Val.can5]
    by_cases h : (nest k v).can.2 = 0
    · simp [Val.cans, h, ← ih]
    · simp [Val.cans, h, ← ih]
theorem nest_canon (v : Val) (k : Nat) : (50 < v.dep + k ∧ (nest k v).canon = (.zero, 11)) ∨ (¬ 50 < v.dep + k ∧ (nest k v).canon.2 = v.canon.2 ∧ (v.canon.2 = 0 → (nest k v).canon.1.dep = v.dep + k)) := by
  by_cases h : 50 < v.dep + k
  · exact .inl ⟨h, by unfold Val.canon; rw [if_pos (by rw [nest_dep]; exact h)]⟩
  · refine .inr ⟨h, ?_, fun h0 => ?_⟩
    · unfold Val.canon
      rw [if_neg (by rw [nest_dep]; exact h), if_neg (by omega), nest_can]
    · obtain ⟨_, _, h3⟩ := Val.canon_ok h0
      unfold Val.canon
      rw [if_neg (by rw [nest_dep]; exact h), Val.can_dep (by rw [nest_can]; exact h3), nest_dep]

/-- the box that holds the value in so many sets -/
def NestAt (W0 : World) (g : Nat) (x : Val) (wr : World) : Prop := GrownBy W0 wr (some g) ∧ ∃ cs : List Value, wr.heap[g]? = some (.cells cs.toArray 27 (0, 0)) ∧ Val.At (fun b => b < wr.heap.size ∧ b ≠ g) wr x cs
theorem NestAt.start {w5 : World} {x : Val} {cs : List Value} (ha : InW w5 x cs) : NestAt (w5.alloc (.cells cs.toArray 27)) w5.heap.size x (w5.alloc (.cells cs.toArray 27)) :=
  ⟨GrownBy.of_ext _ (Ext.refl _), cs, heap_alloc_at rfl _, (Val.At.alike (Alike.of_ext ((Ext.refl w5).alloc _) fun _ h => h) x cs ha).mono fun b hb => ⟨by simp; omega, by omega⟩⟩
theorem NestAt.next {W0 wr : World} {g : Nat} {x : Val} {cs : List Value} (hg : GrownBy W0 wr (some g)) (hh : wr.heap[g]? = some (.cells cs.toArray 27 (0, 0))) (ha : Val.At (fun b => b < wr.heap.size ∧ b ≠ g) wr x cs) :
    NestAt W0 g (Val.setV [x]) ((wr.alloc (.cells cs.toArray 27)).setRow g #[.int .i64 5, .bool false, .int .i64 0, .string ByteArray.empty, .string ByteArray.empty, .string ByteArray.empty, .slice (some ⟨wr.heap.size, 0, none⟩) 1 1, .slice none 0 0]) := by
  have hgl := Blk_lt hh
  have g2 := GrownBy.setRow (wr.alloc (.cells cs.toArray 27)) g #[.int .i64 5, .bool false, .int .i64 0, .string ByteArray.empty, .string ByteArray.empty, .string ByteArray.empty, .slice (some ⟨wr.heap.size, 0, none⟩) 1 1, .slice none 0 0]
  have g1 : GrownBy wr (wr.alloc (.cells cs.toArray 27)) (some g) := GrownBy.of_ext _ ((Ext.refl wr).alloc _)
  have g3 := g1.trans g2
  refine ⟨hg.trans g3, [.int .i64 5, .bool false, .int .i64 0, .string ByteArray.empty, .string ByteArray.empty, .string ByteArray.empty, .slice (some ⟨wr.heap.size, 0, none⟩) 1 1, .slice none 0 0], heap_setRow ((Below.heap_alloc _ _ _ hgl).trans hh) _, ?_⟩
  have hs : wr.heap.size < ((wr.alloc (.cells cs.toArray 27)).setRow g #[.int .i64 5, .bool false, .int .i64 0, .string ByteArray.empty, .string ByteArray.empty, .string ByteArray.empty, .slice (some ⟨wr.heap.size, 0, none⟩) 1 1, .slice none 0 0]).heap.size := by simp [World.setRow]
  refine Val.set_at (vals_at_flat (xs := cs) ⟨hs, by omega⟩ (fun j u hj => ?_) ⟨cs, [], by simp, ?_, rfl⟩ (by simp [LIM]) (by simp) (by rw [maxLen_eq]; omega))
  · exact (World.cell?_of_block (a := ⟨wr.heap.size, 0 + j, none⟩) (g2.block wr.heap.size (by simp) (fun e => by injection e with e; omega))).trans (cellsAt_new 27 cs rfl j u hj)
  · exact (ha.alike (fun b hb => g3.block b hb.1 (fun e => by injection e with e; exact hb.2 e))).mono fun b hb => ⟨by have := hb.1; omega, hb.2⟩

set_option maxRecDepth 100000 in
set_option maxHeartbeats 1600000 in
theorem valueNested_walk (v : Val) (n : Int) (w : World) (cv : List Value) (h0 : 0 ≤ n) (h255 : n ≤ 255) (hv : InW w v cv) :
    Calls Try.prog 7 #[.agg cv.toArray, .int .u8 n] w fun e w' => e = .returned (.bool true) ∧ Ext w w' := by
  obtain ⟨r0, r1, r2, r3, r4, r5, r6, r7, r8, r9, ra, rb, rfl⟩ := Val.At.shape hv
  have HV := Lib.hid hv
  clear hv
  go_enter Try.func7, Try.ntmps7
  go_wp2_with fail
  refine (awake3_ok _).mono ?_
  rintro e w1 ⟨rfl, hx1⟩
  have B := Lib.hid ((BoxAt.new w 27 [.int .i64 r0, .bool r1, .int .i64 r2, .string r3, .string r4, .string r5, .slice r6 r7 r8, .slice r9 ra rb]).ext hx1)
  have HX1 := Lib.hid (((Ext.refl w).alloc _).trans hx1)
  have V := Lib.hid (HV.out.ext HX1.out)
  clear hx1 HV
  go_wp2_with (refine wpList_load_cells rfl 27 (.tmp 2) rfl (w.heap.size) 0 rfl Try.agg27 Try.size27 rfl B.out.2 ?_)
  refine (few_ok03 _ v 0 _ _ [_, _, _, _, _, _, _, _] (Nat.le_refl _) (by omega) (by omega) (InW.lt _) V.out).mono ?_
  rintro e w2 ⟨rfl, hx⟩
  have H2 := Lib.hid hx
  clear hx
  have Hd := Lib.hid (show v.few 0 = true → v.dep ≤ 62 from Val.dep_le)
  generalize v.few 0 = fv at *
  cases fv
  · go_wp2_with fail
    go_ret
    exact ⟨rfl, HX1.out.trans H2.out⟩
  have hd62 := Hd.out rfl
  have D := Lib.hid (show v.dep ≤ 1000000 by omega)
  obtain ⟨d0, d1, d2, d3, d4, d5, d6, d7⟩ := (B.out.ext H2.out).cells
  go_wp2_with fail
  clear d0 d1 d2 d3 d4 d5 d6 d7
  refine (size_ok03 _ v _ _ [_, _, _, _, _, _, _, _] (Nat.le_refl _) (InW.lt _) (V.out.ext H2.out)).mono ?_
  rintro e w3 ⟨sz, _, rfl, hx⟩
  have H3 := Lib.hid (H2.out.trans hx)
  clear hx H2
  by_cases hsz : 100 < sz
  · have t0 : decide (100 < sz) = true := by simpa using hsz
    clear hsz
    go_wp2_with fail
    go_ret
    exact ⟨rfl, HX1.out.trans H3.out⟩
  have t0 : decide (100 < sz) = false := by simpa using hsz
  clear hsz
  go_wp2_with (refine wpList_load_cells rfl 27 (.tmp 2) rfl (w.heap.size) 0 rfl Try.agg27 Try.size27 rfl (B.out.ext H3.out).2 ?_)
  clear t0
  refine (canon_okP v _ _ [_, _, _, _, _, _, _, _] D.out (InW.lt _) (V.out.ext H3.out)).mono ?_
  rintro e w4 ⟨cs, rfl, hat, hx⟩
  obtain ⟨p0, p1, p2, p3, p4, p5, p6, p7, p8, p9, pa, pb, rfl⟩ := hat.shape
  have H4 := Lib.hid ((H3.out.trans hx).alloc (.cells #[.int .i64 p0, .bool p1, .int .i64 p2, .string p3, .string p4, .string p5, .slice p6 p7 p8, .slice p9 pa pb] 27))
  clear hx H3 hat
  obtain ⟨ee, hee⟩ : ∃ ee, ee = v.canon.2 := ⟨_, rfl⟩
  rw [← hee]
  have HE := Lib.hid hee
  clear hee
  go_wp2_with (refine wpList_load_cells rfl 27 (.tmp 2) rfl (w.heap.size) 0 rfl Try.agg27 Try.size27 rfl (B.out.ext H4.out).2 ?_)
  refine (depth_okP _ v _ _ [_, _, _, _, _, _, _, _] (Nat.le_refl _) D.out (InW.lt _) (V.out.ext H4.out)).mono ?_
  rintro e w5 ⟨rfl, hx⟩
  have H5 := Lib.hid (H4.out.trans hx)
  clear hx H4
  go_wp2_with (refine wpList_load_cells rfl 27 (.tmp 2) rfl (w.heap.size) 0 rfl Try.agg27 Try.size27 rfl (B.out.ext H5.out).2 ?_)
  obtain ⟨K, hK, hK60⟩ : ∃ K : Nat, n % 60 = (K : Int) ∧ K < 60 := ⟨(n % 60).toNat, by omega, by omega⟩
  have hna := NestAt.start (V.out.ext H5.out)
  have HX5 := Lib.hid (HX1.out.trans (H5.out.alloc (.cells #[.int .i64 r0, .bool r1, .int .i64 r2, .string r3, .string r4, .string r5, .slice r6 r7 r8, .slice r9 ra rb] 27)))
  have hw5 : w.heap.size ≤ w5.heap.size := (HX1.out.trans H5.out).size
  have HKK := Lib.hid hK
  have hk0 : 0 ≤ n % 60 := by omega
  have hk1 : n % 60 < 60 := by omega
  clear hK
  generalize hW : w5.alloc (.cells #[.int .i64 r0, .bool r1, .int .i64 r2, .string r3, .string r4, .string r5, .slice r6 r7 r8, .slice r9 ra rb] 27) = W at *
  have HN0 : Hid (NestAt W w5.heap.size v W) := Lib.hid hna
  clear hna
  go_wp2_with fail
  rw [HKK.out]
  clear hk0 hk1 hW
  go_loopw [12] (fun u wr => ∃ k : Nat, k ≤ K ∧ u = .int .i64 k ∧ Hid (NestAt W w5.heap.size (nest k v) wr)) (fun u _ => K - (intOf u).toNat)
  case atStart => exact ⟨0, Nat.zero_le _, rfl, HN0.out⟩
  case round =>
    obtain ⟨k, hk, rfl, HNk⟩ := hrel
    obtain ⟨hgr, cs, hh, hat⟩ := HNk.out
    obtain ⟨s0, s1, s2, s3, s4, s5, s6, s7, s8, s9, sa, sb, rfl⟩ := hat.shape
    have HGr := Lib.hid hgr
    have HHh := Lib.hid hh
    have HAt := Lib.hid hat
    have hcl : CellsAt wr w5.heap.size 0 [.int .i64 s0, .bool s1, .int .i64 s2, .string s3, .string s4, .string s5, .slice s6 s7 s8, .slice s9 sa sb] := fun j u hj => by rw [cell_of_row _ _ _ _ _ _ hh, Nat.zero_add]; simpa using hj
    have HCl := Lib.hid hcl
    have HHa := Lib.hid ((Below.heap_alloc wr (.cells #[.int .i64 s0, .bool s1, .int .i64 s2, .string s3, .string s4, .string s5, .slice s6 s7 s8, .slice s9 sa sb] 27) _ (Blk_lt hh)).trans hh)
    clear hgr hh hat hcl
    by_cases hlt : k < K
    · go_wp2_with (first | refine wpList_load_cells rfl 27 (.tmp 10) rfl (w5.heap.size) 0 rfl Try.agg27 Try.size27 rfl HCl.out ?_ | refine wpList_store_cells rfl 27 _ _ rfl w5.heap.size 0 rfl [.int .i64 5, .bool false, .int .i64 0, .string ByteArray.empty, .string ByteArray.empty, .string ByteArray.empty, .slice (some ⟨wr.heap.size, 0, none⟩) 1 1, .slice none 0 0] rfl Try.size27 rfl 27 _ HHa.out (by simp) (by intro u hu; simp at hu; rcases hu with rfl | rfl | rfl | rfl | rfl | rfl <;> rfl) ?_)
      go_roundw
      case rel => exact ⟨k + 1, by omega, by go_num, NestAt.next HGr.out HHh.out HAt.out⟩
      case measure => simp [intOf]; omega
    · have hke : k = K := by omega
      subst hke
      obtain ⟨⟨rn, en⟩, hrn⟩ : ∃ r, r = (nest k v).canon := ⟨_, rfl⟩
      have hnd := nest_dep v k
      have hnc := nest_canon v k
      rw [← hrn, ← HE.out] at hnc
      have HNc := Lib.hid hnc
      have Hrn := Lib.hid hrn
      have HNd := Lib.hid hnd
      have hwr : Ext w wr := ⟨HX5.out.toBelow.trans ⟨HGr.out.os, HGr.out.tape, HGr.out.output, HGr.out.size, fun b hb => HGr.out.block b (Nat.lt_of_lt_of_le hb HX5.out.size) (fun e => by injection e with e; omega)⟩, Nat.le_trans HX5.out.drawn HGr.out.drawn⟩
      have HWr := Lib.hid hwr
      have HGl := Lib.hid (Blk_lt HHh.out)
      have D2 := Lib.hid (show (nest k v).dep ≤ 1000000 by rw [hnd]; omega)
      have HIn : Hid (InW wr (nest k v) [.int .i64 s0, .bool s1, .int .i64 s2, .string s3, .string s4, .string s5, .slice s6 s7 s8, .slice s9 sa sb]) := Lib.hid (HAt.out.mono fun b hb => hb.1)
      clear hnc hrn hnd hwr
      go_wp2_with (refine wpList_load_cells rfl 27 (.tmp 10) rfl (w5.heap.size) 0 rfl Try.agg27 Try.size27 rfl HCl.out ?_)
      have hc := canon_okP (nest k v) _ wr [.int .i64 s0, .bool s1, .int .i64 s2, .string s3, .string s4, .string s5, .slice s6 s7 s8, .slice s9 sa sb] D2.out (InW.lt _) HIn.out
      rw [← Hrn.out] at hc
      refine hc.mono ?_
      clear hc
      rintro e w7 ⟨cs, rfl, hat, hx⟩
      obtain ⟨t0, t1, t2, t3, t4, t5, t6, t7, t8, t9, ta, tb, rfl⟩ := hat.shape
      have Vt := Lib.hid ((InW.of hat fun b hb => hb.2).ext ((Ext.refl w7).alloc (.cells #[.int .i64 t0, .bool t1, .int .i64 t2, .string t3, .string t4, .string t5, .slice t6 t7 t8, .slice t9 ta tb] 27)))
      have Xt := Lib.hid (BoxAt.new w7 27 [.int .i64 t0, .bool t1, .int .i64 t2, .string t3, .string t4, .string t5, .slice t6 t7 t8, .slice t9 ta tb])
      have H7 := Lib.hid (hx.alloc (.cells #[.int .i64 t0, .bool t1, .int .i64 t2, .string t3, .string t4, .string t5, .slice t6 t7 t8, .slice t9 ta tb] 27))
      have HCl7 := Lib.hid (HCl.out.alike (S := fun b => b < wr.heap.size) HGl.out (Alike.of_ext H7.out fun _ h => h))
      clear hx hat
      go_wp2_with (refine wpList_load_cells rfl 27 (.tmp 10) rfl (w5.heap.size) 0 rfl Try.agg27 Try.size27 rfl HCl7.out ?_)
      have hd := depth_okP _ (nest k v) _ _ [.int .i64 s0, .bool s1, .int .i64 s2, .string s3, .string s4, .string s5, .slice s6 s7 s8, .slice s9 sa sb] (Nat.le_refl _) D2.out (InW.lt _) (HIn.out.ext H7.out)
      rw [HNd.out] at hd
      refine hd.mono ?_
      clear hd
      rintro e w8 ⟨rfl, hx⟩
      have H8 := Lib.hid hx
      clear hx
      by_cases h50 : 50 < v.dep + k
      · have hen : en = 11 := by
          rcases HNc.out with ⟨_, h⟩ | ⟨h, _⟩
          · injection h
          · exact absurd h50 h
        subst hen
        have t0 : decide ((50 : Int) < v.dep + k) = true := by simp; omega
        clear h50
        go_wp2_with fail
        go_ret
        exact ⟨rfl, HWr.out.trans (H7.out.trans H8.out)⟩
      have t0 : decide ((50 : Int) < v.dep + k) = false := by simp; omega
      obtain ⟨hen, hrd⟩ : en = ee ∧ (ee = 0 → rn.dep = v.dep + k) := by
        rcases HNc.out with ⟨h, _⟩ | ⟨_, h1, h2⟩
        · exact absurd h h50
        · exact ⟨h1, h2⟩
      subst hen
      clear h50
      by_cases he0 : en = 0
      · subst he0
        have hrd' := hrd rfl
        have HRd := Lib.hid hrd'
        have D3 := Lib.hid (show rn.dep ≤ 1000000 by omega)
        clear hrd hrd'
        obtain ⟨d0, d1, d2, d3, d4, d5, d6, d7⟩ := (Xt.out.ext H8.out).cells
        go_wp2_with fail
        clear d0 d1 d2 d3 d4 d5 d6 d7 t0
        have hd := depth_okP _ rn _ _ [.int .i64 t0, .bool t1, .int .i64 t2, .string t3, .string t4, .string t5, .slice t6 t7 t8, .slice t9 ta tb] (Nat.le_refl _) D3.out (InW.lt _) (Vt.out.ext H8.out)
        rw [HRd.out] at hd
        refine hd.mono ?_
        clear hd
        rintro e w9 ⟨rfl, hx⟩
        have H9 := Lib.hid (H8.out.trans hx)
        clear hx
        go_wp2_with fail
        go_ret
        exact ⟨rfl, HWr.out.trans (H7.out.trans H9.out)⟩
      · have t1 : (en != 0) = true := by simpa using he0
        clear he0 hrd
        go_wp2_with fail
        go_ret
        exact ⟨rfl, HWr.out.trans (H7.out.trans H8.out)⟩
end Go.Proofs.Ytpkgkabcikmopaa
