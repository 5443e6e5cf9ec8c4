/-
  What the sixth layer's statements try first. The conditions: none.
-/
import Derived.Test.YtjllolagcdjlnaaGreatIn6M
import Derived.Test.YtjllolagcdjlnaaGreatUpSM
import Derived.Test.YtjllolagcdjlnaaGreatGf
namespace Go.Proofs.YtjllolagcdjlnaaGreat
open Go.RowKit

def uC3 : Uid := (tU, ⟨#[99]⟩)
theorem fitC : FitU uC3 := ⟨by rw [maxLen_eq]; decide, by rw [maxLen_eq]; decide⟩
theorem uN2 : uN 2 = uC3 := by decide +kernel
def ents6 : List Ent := [⟨uB, [uC3], recV⟩, ⟨uC3, [], recV⟩, ⟨uA, [uB], recV⟩]
theorem ents6_perm : ents6.Perm (esS 3 fun _ => false) := by
  have : esS 3 (fun _ => false) = [⟨uA, [uB], recV⟩, ⟨uB, [uC3], recV⟩, ⟨uC3, [], recV⟩] := by
    simp [esS, entS, psS, List.range, List.range.loop, uN0, uN1, uN2]
  rw [this]
  exact (List.perm_append_comm (l₁ := ([⟨uB, [uC3], recV⟩, ⟨uC3, [], recV⟩] : List Ent)) (l₂ := ([⟨uA, [uB], recV⟩] : List Ent)))
theorem heap7 (w : World) (o0 o1 o2 o3 o4 o5 o6 : Obj) : ∃ W, W = ((((((w.alloc o0).alloc o1).alloc o2).alloc o3).alloc o4).alloc o5).alloc o6 ∧ W.heap[w.heap.size]? = some o0 ∧ W.heap[w.heap.size + 1]? = some o1 ∧ W.heap[w.heap.size + 2]? = some o2 ∧ W.heap[w.heap.size + 3]? = some o3 ∧ W.heap[w.heap.size + 4]? = some o4 ∧ W.heap[w.heap.size + 5]? = some o5 ∧ W.heap[w.heap.size + 6]? = some o6 ∧ W.heap.size = w.heap.size + 7 ∧ Ext w W := by
  refine ⟨_, rfl, ?_, ?_, ?_, ?_, ?_, ?_, ?_, by simp, (((((((Ext.refl w).alloc _).alloc _).alloc _).alloc _).alloc _).alloc _).alloc _⟩ <;> (simp only [World.alloc, Array.getElem?_push, Array.size_push]; (repeat rw [if_neg (by omega)]); simp)

theorem inB_S {k : Nat} {s : Nat → Bool} {m : List Ent} (hk : k ≤ 12) (hm : m.Perm (esS k s)) {i j : Nat} (hi : i < k) (hj : j < k) : inB (canonE m).1 (uN i) (uN j) = decide (i ≤ j) := by
  have h1 : UpTo (canonE m).1 (uN i) (uN j) ↔ i < j := (upTo_canon (goodS hk hm)).trans (upTo_S hk hm hi hj)
  have h2 : uN i = uN j ↔ i = j := ⟨uN_inj (by omega) (by omega), fun h => by rw [h]⟩
  unfold inB
  by_cases h3 : i = j
  · subst h3; simp
  · by_cases h4 : i < j
    · simp [h1, h4, Nat.le_of_lt h4]
    · have h5 : ¬ i ≤ j := by omega
      simp [h1, h2, h3, h4, h5]
theorem aboveLen {k : Nat} {s : Nat → Bool} {m : List Ent} (hk : k ≤ 12) (hm : m.Perm (esS k s)) {i : Nat} (hi : i < k) {w w' : World} {e : Ending} (h : AbovePost (canonE m).1 (uN i) w e w') : ∃ A cap, e = .returned (.slice A (k - 1 - i) cap) ∧ Ext w w' := by
  obtain ⟨v, l, rfl, ⟨A, cap, rfl, _⟩, hs, hq, hx⟩ := h
  have := countS hk hm hi (strict_nodup hs) fun q => (hq q).trans (upTo_canon (goodS hk hm))
  exact ⟨A, cap, by rw [this], hx⟩
theorem ents6_a {x : Ent} (hx : x ∈ (canonE ents6).1) (hu : x.uid = uA) : x.ps.length = 1 := by
  obtain ⟨e, he, rfl⟩ := (canonE_mem (goodS (k := 3) (by omega) ents6_perm) x).1 hx
  have hu : e.uid = uA := hu
  simp only [ents6, List.mem_cons, List.mem_nil_iff, or_false] at he
  rcases he with rfl | rfl | rfl
  · exact absurd hu (by decide +kernel)
  · exact absurd hu (by decide +kernel)
  · rfl
theorem ents6_no : idx ((canonE ents6).1.map Ent.uid) (ByteArray.empty, ByteArray.empty) = none := by
  rw [idx_none, (canonE_names (goodS (k := 3) (by omega) ents6_perm)).mem_iff]
  intro h
  simp only [ents6, List.map_cons, List.map_nil, List.mem_cons, List.mem_nil_iff, or_false] at h
  rcases h with h | h | h <;> exact absurd h (by decide +kernel)
theorem ents6_has : ∃ i, idx ((canonE ents6).1.map Ent.uid) uA = some i := by
  rw [← idx_mem, (canonE_names (goodS (k := 3) (by omega) ents6_perm)).mem_iff]
  simp [ents6]

set_option maxRecDepth 100000 in
set_option maxHeartbeats 4000000 in
theorem awake6_ok (w : World) : Calls Tryz.prog 20 #[] w fun e w' => e = .returned (.bool true) ∧ Ext w w' := by
  go_enter Tryz.func20, Tryz.ntmps20
  go_wp2_with fail
  obtain ⟨W, hW, m0, m1, m2, m3, m4, m5, m6, hsz, hx⟩ := heap7 w (.cells #[.string tU, .string tA] 31) (.cells #[.string tU, .string tB] 31) (.cells #[.string tU, .string ⟨#[99]⟩] 31) (.cells recC.toArray 35) (.cells #[.string tU, .string ⟨#[99]⟩] 31) (.cells #[.string tU, .string tB] 31)
    (.cells ((.string tU :: .string tB :: .slice (some ⟨w.heap.size + 1 + 1 + 1 + 1, 0, none⟩) 1 1 :: recC) ++ (.string tU :: .string ⟨#[99]⟩ :: .slice none 0 0 :: recC) ++ (.string tU :: .string tA :: .slice (some ⟨w.heap.size + 1 + 1 + 1 + 1 + 1, 0, none⟩) 1 1 :: recC)).toArray 37)
  have hfl : ∀ (u : Uid) (S : Nat → Prop), FitU u → uidR.Flat S W [u] [.string u.1, .string u.2] := fun u S h => .single ⟨rfl, h⟩
  have hr : entR.RowsAt (fun b => b < W.heap.size) W ents6 (.slice (some ⟨w.heap.size + 1 + 1 + 1 + 1 + 1 + 1, 0, none⟩) 3 3) :=
    flat_block m6 (((Rep.Flat.single (R := entR) (x := ⟨uB, [uC3], recV⟩) (cs := .string tU :: .string tB :: .slice (some ⟨w.heap.size + 1 + 1 + 1 + 1, 0, none⟩) 1 1 :: recC) ⟨_, recC, rfl, fitB, flat_block m4 (hfl uC3 _ fitC) (by omega) (by rw [LIM_eq]; simp) rfl (by simp) (by rw [maxLen_eq]; omega), recV_at _ _⟩).append
      (Rep.Flat.single (R := entR) (x := ⟨uC3, [], recV⟩) (cs := .string tU :: .string ⟨#[99]⟩ :: .slice none 0 0 :: recC) ⟨_, recC, rfl, fitC, Rep.RowsAt.nil _ _, recV_at _ _⟩)).append
      (Rep.Flat.single (R := entR) (x := ⟨uA, [uB], recV⟩) (cs := .string tU :: .string tA :: .slice (some ⟨w.heap.size + 1 + 1 + 1 + 1 + 1, 0, none⟩) 1 1 :: recC) ⟨_, recC, rfl, fitA, flat_block m5 (hfl uB _ fitB) (by omega) (by rw [LIM_eq]; simp) rfl (by simp) (by rw [maxLen_eq]; omega), recV_at _ _⟩)) (by omega) (by rw [LIM_eq]; simp) rfl (by simp) (by rw [maxLen_eq]; omega)
  have hload := load_ok _ _ _ W (fun _ h => h) hr (by decide) (by intro e he; simp [ents6] at he; rcases he with rfl | rfl | rfl <;> simp) (by intro e he; simp [ents6] at he; rcases he with rfl | rfl | rfl <;> simp [recV, Val.dep, Val.deps])
  have HLoad := Lib.hid hload
  have HX6 := Lib.hid hx
  have M0 := Lib.hid m0
  have M2 := Lib.hid m2
  clear m0 m1 m2 m3 m4 m5 m6 hsz hx hr hload hfl
  subst hW
  refine HLoad.out.mono ?_
  rintro e w7 ⟨hbad, hgood, hx7⟩
  clear hbad
  obtain ⟨g, rfl, hfam, hg⟩ := hgood (canonE_iff.2 (goodS (by omega) ents6_perm))
  have HX7 := Lib.hid (HX6.out.trans hx7)
  have B0 : Hid (w7.heap[w.heap.size]? = some (.cells #[.string tU, .string tA] 31 (0, 0))) := Lib.hid ((hx7.block _ (Blk_lt M0.out)).trans M0.out)
  have B2 : Hid (w7.heap[w.heap.size + 1 + 1]? = some (.cells #[.string tU, .string ⟨#[99]⟩] 31 (0, 0))) := Lib.hid ((hx7.block _ (Blk_lt M2.out)).trans M2.out)
  have HFam := Lib.hid hfam
  clear hx7 HLoad HX6 M0 M2 hgood hfam hg
  have a0 : w7.cell? ⟨w.heap.size, 0, none⟩ = some (.string ⟨#[85]⟩) := by rw [cell_of_row _ _ _ _ _ _ B0.out]; rfl
  have a1 : w7.cell? ⟨w.heap.size, 1, none⟩ = some (.string ⟨#[97]⟩) := by rw [cell_of_row _ _ _ _ _ _ B0.out]; rfl
  generalize hc : (canonE ents6).1 = c at *
  have Hc := Lib.hid hc
  clear hc
  go_wp2_with fail
  refine (getF_ok g c uA w7 fitA HFam.out).mono ?_
  rintro e w8 ⟨cs8, b8, rfl, hcs8, hx8⟩
  obtain ⟨i8, x8, hix8, hcx8, rfl, hat8⟩ : ∃ i x, idx (c.map Ent.uid) uA = some i ∧ c[i]? = some x ∧ b8 = true ∧ entR.At (FreshU w7.heap.size w8) w8 x cs8 := by
    rcases hcs8 with ⟨h, _⟩ | h
    · obtain ⟨i, hi⟩ := ents6_has
      rw [Hc.out, h] at hi
      cases hi
    · exact h
  have hps8 : x8.ps.length = 1 := ents6_a (by rw [Hc.out]; exact List.mem_of_getElem? hcx8) (by
    have h := idx_get hix8
    rw [List.getElem?_map, hcx8] at h
    exact Option.some.inj h)
  obtain ⟨A8, l8, c8, q1, q2, q3, q4, q5, q6, E2, l2, d2, E3, l3, d3, rfl⟩ := ent_shape hat8
  obtain rfl : l8 = 1 := by
    obtain ⟨pv, acs, e, _, ⟨A', c', rfl, _⟩, _⟩ := hat8
    simp at e
    rw [← hps8]
    exact e.1.2.1
  have HX8 := Lib.hid (HX7.out.trans hx8)
  have HFam8 := Lib.hid (HFam.out.ext hx8)
  have B08 := Lib.hid ((hx8.block _ (Blk_lt B0.out)).trans B0.out)
  have B28 := Lib.hid ((hx8.block _ (Blk_lt B2.out)).trans B2.out)
  clear hcs8 hx8 hix8 hcx8 hat8 hps8 HX7 HFam B0 B2 a0 a1
  go_wp2_with fail
  refine (getF_ok g c (ByteArray.empty, ByteArray.empty) _ ⟨by rw [maxLen_eq]; decide, by rw [maxLen_eq]; decide⟩ (HFam8.out.ext ((Ext.refl w8).alloc _))).mono ?_
  rintro e w9 ⟨cs9, b9, rfl, hcs9, hx9⟩
  obtain ⟨rfl, rfl⟩ : b9 = false ∧ cs9 = zeroEnt := by
    rcases hcs9 with ⟨_, h1, h2⟩ | ⟨i, x, h, _⟩
    · exact ⟨h1, h2⟩
    · have := ents6_no
      rw [Hc.out, h] at this
      cases this
  have HE8 : Hid (w9.heap[w8.heap.size]? = some (.cells #[.string x8.uid.1, .string x8.uid.2, .slice A8 1 c8, .int .i64 q1, .bool q2, .int .i64 q3, .string q4, .string q5, .string q6, .slice E2 l2 d2, .slice E3 l3 d3] 37 (0, 0))) := Lib.hid ((hx9.block _ (by simp)).trans (heap_alloc_new _ _))
  have hx9' := ((Ext.refl w8).alloc _).trans hx9
  have HX9 := Lib.hid (HX8.out.trans hx9')
  have HFam9 := Lib.hid (HFam8.out.ext hx9')
  have B09 := Lib.hid ((hx9'.block _ (Blk_lt B08.out)).trans B08.out)
  have B29 := Lib.hid ((hx9'.block _ (Blk_lt B28.out)).trans B28.out)
  clear hcs9 hx9 hx9' HX8 HFam8 B08 B28
  rw [show zeroEnt = [.string ByteArray.empty, .string ByteArray.empty, .slice none 0 0, .int .i64 0, .bool false, .int .i64 0, .string ByteArray.empty, .string ByteArray.empty, .string ByteArray.empty, .slice none 0 0, .slice none 0 0] from rfl]
  have hz9 : ∀ o, (w9.alloc o).cell? ⟨w.heap.size, 0, none⟩ = some (.string ⟨#[85]⟩) ∧ (w9.alloc o).cell? ⟨w.heap.size, 1, none⟩ = some (.string ⟨#[97]⟩) := fun o =>
    ⟨(World.cell?_of_block (w := w9) (heap_alloc_old _ _ (Blk_lt B09.out))).trans (cell_of_row _ _ 0 _ _ _ B09.out), (World.cell?_of_block (w := w9) (heap_alloc_old _ _ (Blk_lt B09.out))).trans (cell_of_row _ _ 1 _ _ _ B09.out)⟩
  have z0 := fun o => (hz9 o).1
  have z1 := fun o => (hz9 o).2
  clear hz9
  go_wp2_with fail
  rw [← Hc.out] at HFam9
  have hab := fun W (h : Fam W g (canonE ents6).1) => (aboveF_ok g (canonE ents6).1 uA W fitA h).mono fun e w' h => by
    rw [← uN0] at h
    exact aboveLen (by omega) ents6_perm (i := 0) (by omega) h
  refine (hab _ (HFam9.out.ext ((Ext.refl w9).alloc _))).mono ?_
  rintro e w10 ⟨A10, c10, rfl, hx10⟩
  have hx10' := ((Ext.refl w9).alloc _).trans hx10
  have HX10 := Lib.hid (HX9.out.trans hx10')
  have HFam10 := Lib.hid (HFam9.out.ext hx10')
  have B0a := Lib.hid ((hx10'.block _ (Blk_lt B09.out)).trans B09.out)
  have B2a := Lib.hid ((hx10'.block _ (Blk_lt B29.out)).trans B29.out)
  have HEa := Lib.hid ((hx10'.block _ (Blk_lt HE8.out)).trans HE8.out)
  clear hx10 hx10' HX9 HFam9 B09 B29 HE8 hab z0 z1
  have k0 : w10.cell? ⟨w.heap.size, 0, none⟩ = some (.string ⟨#[85]⟩) := cell_of_row _ _ 0 _ _ _ B0a.out
  have k1 : w10.cell? ⟨w.heap.size, 1, none⟩ = some (.string ⟨#[97]⟩) := cell_of_row _ _ 1 _ _ _ B0a.out
  have k2 : w10.cell? ⟨w.heap.size + 1 + 1, 0, none⟩ = some (.string ⟨#[85]⟩) := cell_of_row _ _ 0 _ _ _ B2a.out
  have k3 : w10.cell? ⟨w.heap.size + 1 + 1, 1, none⟩ = some (.string ⟨#[99]⟩) := cell_of_row _ _ 1 _ _ _ B2a.out
  go_wp2_with fail
  refine (inF_ok g (canonE ents6).1 uA uC3 w10 fitA fitC HFam10.out).mono ?_
  rintro e w11 ⟨rfl, hx11⟩
  rw [← uN0, ← uN2, inB_S (k := 3) (by omega) ents6_perm (by omega) (by omega)]
  have HX11 := Lib.hid (HX10.out.trans hx11)
  have HFam11 := Lib.hid (HFam10.out.ext hx11)
  have B0b := Lib.hid ((hx11.block _ (Blk_lt B0a.out)).trans B0a.out)
  have B2b := Lib.hid ((hx11.block _ (Blk_lt B2a.out)).trans B2a.out)
  have HEb := Lib.hid ((hx11.block _ (Blk_lt HEa.out)).trans HEa.out)
  clear hx11 HX10 HFam10 B0a B2a HEa k0 k1 k2 k3
  have k0 : w11.cell? ⟨w.heap.size, 0, none⟩ = some (.string ⟨#[85]⟩) := cell_of_row _ _ 0 _ _ _ B0b.out
  have k1 : w11.cell? ⟨w.heap.size, 1, none⟩ = some (.string ⟨#[97]⟩) := cell_of_row _ _ 1 _ _ _ B0b.out
  have k2 : w11.cell? ⟨w.heap.size + 1 + 1, 0, none⟩ = some (.string ⟨#[85]⟩) := cell_of_row _ _ 0 _ _ _ B2b.out
  have k3 : w11.cell? ⟨w.heap.size + 1 + 1, 1, none⟩ = some (.string ⟨#[99]⟩) := cell_of_row _ _ 1 _ _ _ B2b.out
  go_wp2_with fail
  refine (inF_ok g (canonE ents6).1 uC3 uA w11 fitC fitA HFam11.out).mono ?_
  rintro e w12 ⟨rfl, hx12⟩
  rw [← uN0, ← uN2, inB_S (k := 3) (by omega) ents6_perm (by omega) (by omega)]
  have HX12 := Lib.hid (HX11.out.trans hx12)
  have HFam12 := Lib.hid (HFam11.out.ext hx12)
  have B2c := Lib.hid ((hx12.block _ (Blk_lt B2b.out)).trans B2b.out)
  have HEc := Lib.hid ((hx12.block _ (Blk_lt HEb.out)).trans HEb.out)
  clear hx12 HX11 HFam11 B0b B2b HEb k0 k1 k2 k3
  have k2 : w12.cell? ⟨w.heap.size + 1 + 1, 0, none⟩ = some (.string ⟨#[85]⟩) := cell_of_row _ _ 0 _ _ _ B2c.out
  have k3 : w12.cell? ⟨w.heap.size + 1 + 1, 1, none⟩ = some (.string ⟨#[99]⟩) := cell_of_row _ _ 1 _ _ _ B2c.out
  go_wp2_with fail
  refine (inF_ok g (canonE ents6).1 uC3 uC3 w12 fitC fitC HFam12.out).mono ?_
  rintro e w13 ⟨rfl, hx13⟩
  rw [← uN2, inB_S (k := 3) (by omega) ents6_perm (by omega) (by omega)]
  have HX13 := Lib.hid (HX12.out.trans hx13)
  have HFam13 := Lib.hid (HFam12.out.ext hx13)
  have k4 : w13.cell? ⟨w8.heap.size, 2, none⟩ = some (.slice A8 1 c8) := by
    have h := cell_of_row _ _ 2 _ _ _ ((hx13.block _ (Blk_lt HEc.out)).trans HEc.out)
    exact h
  clear hx13 HX12 HFam12 B2c HEc k2 k3
  go_wp2_with fail
  refine (allF_ok g (canonE ents6).1 w13 HFam13.out).mono ?_
  rintro e w14 ⟨v14, rfl, ho14, hx14⟩
  obtain ⟨A14, c14, rfl⟩ := ho14.shape
  rw [show (canonE ents6).1.length = 3 from canonE_length (goodS (k := 3) (by omega) ents6_perm)]
  have HX14 := Lib.hid (HX13.out.trans hx14)
  clear hx14 HX13 HFam13 ho14 k4
  go_wp2_with fail
  go_ret
  exact ⟨rfl, HX14.out⟩
end Go.Proofs.YtjllolagcdjlnaaGreat
