/-
  ConformStores: what the statement's own function answers. The conditions: the arguments lie in memory as they should.
-/
import Derived.Test.YtbkaffhbhimglaaGreatStoRQ
import Derived.Test.YtbkaffhbhimglaaGreatCheck12Q
import Derived.Test.YtbkaffhbhimglaaGreatAwk13Q
import Derived.Test.YtbkaffhbhimglaaGreatCrowdQ
import Derived.Test.YtbkaffhbhimglaaGreatKnownQ
import Derived.Test.YtbkaffhbhimglaaGreatExec2Q
namespace Go.Proofs.YtbkaffhbhimglaaGreat
open Go.RowKit
open Lib renaming hid → q_
set_option maxRecDepth 100000
set_option maxHeartbeats 8000000
theorem zbc {P : Program} {o : Oper} {a : Act} {w : World} {K : Act → World → Prop} {Q : Exit → Act → World → Prop} {v0 : Value} (hrun : (execOp a.eval o).run P w = .ok (.value v0) w) (hk : ∀ v w', Ext w w' → v = v0 → K (a.put o.dst v) w') : o.wp P a w K Q :=
 zef (Φ := fun v _ => v = v0) hrun (Ext.refl w) rfl hk
theorem acts_conform {s : Sch} (h : ActsOk s.acts) (hl : s.acts.length ≤ 4096) : zdp s (zaz s.acts) = 0 := by
 have hg := h.good hl
 have h0 := canonE_iff.2 hg
 have hall : ∀ x ∈ (zar (zaz s.acts)).1, x.uid.1 = tAct := fun x hx => by
  obtain ⟨e, he, rfl⟩ := (canonE_mem hg x).1 hx
  obtain ⟨a, _, rfl⟩ := List.mem_map.1 he
  rfl
 unfold zdp
 rw [h0, if_neg (by simp)]
 have h1 : (zar (zaz s.acts)).1.all (okE s (zar (zaz s.acts)).1) = true := List.all_eq_true.2 fun x hx => by
  unfold okE
  rw [if_pos (hall x hx)]
  refine List.any_eq_true.2 ⟨x, hx, ?_⟩
  simp only [sameE, Bool.and_eq_true, decide_eq_true_eq, true_and]
  rw [acts_plain x hx]; rfl
 have h2 : zbz (zar (zaz s.acts)).1 = (zar (zaz s.acts)).1.length := by
  unfold zbz
  rw [List.filter_eq_self.2 fun x hx => decide_eq_true (hall x hx)]
 rw [h1, if_pos rfl, h2, if_neg (by omega)]
def StoK (sc lv xv : Value) (ans : Int) (l : List Ent) : Nat → Value → World → Prop
 | 0, v, _ => v = sc
 | 1, v, _ => v = lv
 | 2, v, _ => v = .int .i64 ans
 | 3, v, _ => v = sc
 | 4, v, _ => v = lv
 | 5, v, _ => v = .int .i64 ans
 | 8, v, _ => v = xv
 | 9, v, _ => v = sc
 | 10, v, W => entR.RowsAt (fun b => b < W.heap.size) W l v
 | 14, v, _ => v = sc
 | 15, v, _ => v = xv
 | 16, v, _ => v = .int .i64 0
 | _, v, _ => v = .bool true
theorem StoK.ext {sc lv xv : Value} {ans : Int} {l : List Ent} (i : Nat) (v : Value) (W W' : World) (h : StoK sc lv xv ans l i v W) (k : Ext W W') : StoK sc lv xv ans l i v W' := by
 by_cases h10 : i = 10
 ·subst h10
  exact (Rep.RowsAt.alike h (Alike.of_ext k fun _ h => h)).mono fun b hb => Nat.lt_of_lt_of_le hb k.size
 ·unfold StoK at h ⊢
  split at h <;> first | exact h | exact absurd rfl h10
theorem Tryz.eqErr (a b : Int) (p q : Operand) (w : World) (h : a = b) : (do eqGuard .eql 30 p q (.int .i64 a) (.int .i64 b); binOp .eql 30 (.int .i64 a) (.int .i64 b) : Sem Value).run Tryz.prog w = .ok (.bool true) w := by
 subst h
 simp [go_sem, binOp, eqGuard]
theorem list19 {α : Type} {l : List α} (h : l.length = 19) : ∃ x0 x1 x2 x3 x4 x5 x6 x7 x8 x9 x10 x11 x12 x13 x14 x15 x16 x17 x18, l = [x0, x1, x2, x3, x4, x5, x6, x7, x8, x9, x10, x11, x12, x13, x14, x15, x16, x17, x18] := by
 match l, h with
 | [x0, x1, x2, x3, x4, x5, x6, x7, x8, x9, x10, x11, x12, x13, x14, x15, x16, x17, x18], _ => exact ⟨_, _, _, _, _, _, _, _, _, _, _, _, _, _, _, _, _, _, _, rfl⟩
theorem conformStores_walk (s : Sch) (l : List Ent) (W : World) (ss : List Value) (v : Value) (hs : Sch.At (fun b => b < W.heap.size) W s ss) (hl : entR.RowsAt (fun b => b < W.heap.size) W l v) :
  Calls Tryz.prog 3 #[.agg ss.toArray, v] W fun e W' => e = .returned (.bool true) ∧ Ext W W' := by
 have HSs := q_ hs
 have HL := q_ hl
 obtain ⟨_, _, rfl, ⟨A1, c1, rfl, _⟩, ⟨A2, c2, rfl, _⟩⟩ := hs
 obtain ⟨LA, lc, rfl, _⟩ := hl
 have HX0 := q_ ((Ext.refl W).alloc (.cells #[.slice A1 s.types.length c1, .slice A2 s.acts.length c2] 25))
 have HB0 := q_ (heap_alloc_new W (.cells #[.slice A1 s.types.length c1, .slice A2 s.acts.length c2] 25))
 go_enter Tryz.func3, Tryz.ntmps3
 go_wp2_with fail
 refine (awake13_ok _).mono ?_
 rintro e w1 ⟨rfl, hx⟩
 have HX1 := q_ (HX0.out.trans hx)
 have HB1 := q_ ((hx.block _ (zad HB0.out)).trans HB0.out)
 clear hx HB0 HX0
 have f0 : w1.cell? ⟨W.heap.size, 0, none⟩ = some (.slice A1 s.types.length c1) := cell_of_row _ _ 0 _ _ _ HB1.out
 have f1 : w1.cell? ⟨W.heap.size, 1, none⟩ = some (.slice A2 s.acts.length c2) := cell_of_row _ _ 1 _ _ _ HB1.out
 go_wp2_with fail
 clear f0 f1
 refine (sized_ok13 (fun b => b < W.heap.size) s [.slice A1 s.types.length c1, .slice A2 s.acts.length c2] w1 (fun b hb => Nat.lt_of_lt_of_le hb HX1.out.size) (HSs.out.alike (Alike.of_ext HX1.out fun _ h => h))).mono ?_
 rintro e w2 ⟨r1, hr1, rfl, hx⟩
 have HX2 := q_ (HX1.out.trans hx)
 have HB2 := q_ ((hx.block _ (zad HB1.out)).trans HB1.out)
 have HR1 := q_ hr1
 clear hx HB1 hr1 HX1
 go_wp2_with fail
 refine (crowd_ok13 (fun b => b < W.heap.size) l (.slice LA l.length lc) w2 (fun b hb => Nat.lt_of_lt_of_le hb HX2.out.size) (HL.out.alike (Alike.of_ext HX2.out fun _ h => h))).mono ?_
 rintro e w3 ⟨r2, hr2, rfl, hx⟩
 have HX3 := q_ (HX2.out.trans hx)
 have HB3 := q_ ((hx.block _ (zad HB2.out)).trans HB2.out)
 have HR2 := q_ hr2
 clear hx HB2 hr2 HX2
 cases r1 with
 | false =>
  go_wp2_with fail
  go_ret
  exact ⟨rfl, HX3.out⟩
 | true =>
 cases r2 with
 | false =>
  go_wp2_with fail
  go_ret
  exact ⟨rfl, HX3.out⟩
 | true =>
 have HSz := q_ (HR1.out rfl)
 have HCr := q_ (HR2.out rfl)
 clear HR1 HR2
 have f0 : w3.cell? ⟨W.heap.size, 0, none⟩ = some (.slice A1 s.types.length c1) := cell_of_row _ _ 0 _ _ _ HB3.out
 have f1 : w3.cell? ⟨W.heap.size, 1, none⟩ = some (.slice A2 s.acts.length c2) := cell_of_row _ _ 1 _ _ _ HB3.out
 go_wp2_with fail
 clear f0 f1
 refine (check12_ok (fun b => b < W.heap.size) s [.slice A1 s.types.length c1, .slice A2 s.acts.length c2] w3 HSz.out (fun b hb => Nat.lt_of_lt_of_le hb HX3.out.size) (HSs.out.alike (Alike.of_ext HX3.out fun _ h => h))).mono ?_
 rintro e w4 ⟨z, hz, rfl, hx⟩
 have HX4 := q_ (HX3.out.trans hx)
 have HB4 := q_ ((hx.block _ (zad HB3.out)).trans HB3.out)
 have HZ := q_ hz
 clear hx HB3 hz HX3
 by_cases h0 : z = 0
 case neg =>
  have e0 : (z != 0) = true := by simpa using h0
  clear h0
  go_wp2_with fail
  go_ret
  exact ⟨rfl, HX4.out⟩
 subst h0
 have HOk := q_ (HZ.out rfl)
 clear HZ
 have f0 : w4.cell? ⟨W.heap.size, 0, none⟩ = some (.slice A1 s.types.length c1) := cell_of_row _ _ 0 _ _ _ HB4.out
 have f1 : w4.cell? ⟨W.heap.size, 1, none⟩ = some (.slice A2 s.acts.length c2) := cell_of_row _ _ 1 _ _ _ HB4.out
 go_wp2_with fail
 clear f0 f1
 refine (actions_ok (fun b => b < W.heap.size) s [.slice A1 s.types.length c1, .slice A2 s.acts.length c2] w4 (fun b hb => Nat.lt_of_lt_of_le hb HX4.out.size) (HSs.out.alike (Alike.of_ext HX4.out fun _ h => h))).mono ?_
 rintro e w5 ⟨xv, rfl, hao, hx⟩
 have ha10 := HSz.out.acts
 have hi10 : ∀ a ∈ s.acts, a.ins.length ≤ 10 := fun a ha => by
  obtain ⟨i, hi⟩ := List.mem_iff_getElem?.1 ha
  exact (HSz.out.eachA i a hi).2.1
 have har := hao.rows (by rw [zak]; simp [zaz]; omega)
 have HXa := q_ har
 obtain ⟨XA, xc, rfl, _⟩ := har
 have HX5 := q_ (HX4.out.trans hx)
 have HB5 := q_ ((hx.block _ (zad HB4.out)).trans HB4.out)
 have HLn := q_ (show l.length ≤ 20 from HCr.out.len)
 have HEp := q_ (fun e he => (HCr.out.each e he).1)
 have HEd := q_ (fun e he => (HCr.out.each e he).2)
 have HA10 := q_ ha10
 have HI10 := q_ hi10
 have HAs : Hid ((zaz s.acts).length ≤ 10 ∧ (∀ e ∈ zaz s.acts, e.ps.length ≤ 10) ∧ ∀ e ∈ zaz s.acts, e.av.dep ≤ 1000000) := q_ ⟨by simpa [zaz] using ha10, fun e he => by
   obtain ⟨a, ha, rfl⟩ := List.mem_map.1 he
   show (upA a.ins).length ≤ _
   simpa [upA] using hi10 a ha, (actsE_small fun a ha => Nat.le_trans (hi10 a ha) (by omega)).2⟩
 have H0 := q_ (acts_conform HOk.out.2.2 (by omega))
 obtain ⟨ans, hans⟩ : ∃ ans, zdp s l = ans := ⟨_, rfl⟩
 have HAns := q_ hans
 clear hx hao HB4 HX4 ha10 hi10 hans
 go_wp2_with fail
 refine region_known 19 (StoK (.agg ([.slice A1 s.types.length c1, .slice A2 s.acts.length c2] : List Value).toArray) (.slice LA l.length lc) (.slice XA (zaz s.acts).length xc) ans (zaz s.acts)) (by kernel_rfl) (by kernel_rfl) (by kernel_rfl) (fun i v W W' => StoK.ext i v W W') (fun i o j b hi ho hg => ?_) (fun i o hi ho W5 c hx hold hf Q K hK => ?_) ?_
 ·rcases (by omega : i = 0 ∨ i = 1 ∨ i = 2 ∨ i = 3 ∨ i = 4 ∨ i = 5 ∨ i = 6 ∨ i = 7 ∨ i = 8 ∨ i = 9 ∨ i = 10 ∨ i = 11 ∨ i = 12 ∨ i = 13 ∨ i = 14 ∨ i = 15 ∨ i = 16 ∨ i = 17 ∨ i = 18) with rfl | rfl | rfl | rfl | rfl | rfl | rfl | rfl | rfl | rfl | rfl | rfl | rfl | rfl | rfl | rfl | rfl | rfl | rfl <;> obtain rfl := Option.some.inj ho <;> first | (cases hg; done) | (obtain rfl := congrArg Prod.fst (Option.some.inj hg); obtain rfl := congrArg Prod.snd (Option.some.inj hg); exact fun v W _ h => h)
 ·rcases (by omega : i = 0 ∨ i = 1 ∨ i = 2 ∨ i = 3 ∨ i = 4 ∨ i = 5 ∨ i = 6 ∨ i = 7 ∨ i = 8 ∨ i = 9 ∨ i = 10 ∨ i = 11 ∨ i = 12 ∨ i = 13 ∨ i = 14 ∨ i = 15 ∨ i = 16 ∨ i = 17 ∨ i = 18) with rfl | rfl | rfl | rfl | rfl | rfl | rfl | rfl | rfl | rfl | rfl | rfl | rfl | rfl | rfl | rfl | rfl | rfl | rfl <;> obtain rfl := Option.some.inj ho
  ·exact zbc (za5 25 _ rfl W.heap.size 0 (hold 2 (by kernel_rfl)) zck zb5 rfl (zat ((hx.block _ (zad HB5.out)).trans HB5.out))) hK
  ·exact zbc (zb4 rfl (hold 1 (by kernel_rfl))) hK
  ·refine zeg (Φ := fun v _ => v = .int .i64 ans) (zc3 Tryz.func9 rfl rfl rfl (map_two (hf 0 29 (by omega) (by kernel_rfl) (by kernel_rfl)) (hf 1 30 (by omega) (by kernel_rfl) (by kernel_rfl)))) ((storeP_ok (fun b => b < W.heap.size) s [.slice A1 s.types.length c1, .slice A2 s.acts.length c2] l (.slice LA l.length lc) W5 (fun b hb => Nat.lt_of_lt_of_le hb (HX5.out.trans hx).size) (HSs.out.alike (Alike.of_ext (HX5.out.trans hx) fun _ h => h)) (HL.out.alike (Alike.of_ext (HX5.out.trans hx) fun _ h => h)) (by have := HLn.out; omega) (fun e he => by have := HEp.out e he; omega) (fun e he => by have := HEd.out e he; omega) (by have := HA10.out; omega) (fun a ha => by have := HI10.out a ha; omega)).mono fun e w' hh => ⟨_, hh.1, hh.2, by rw [HAns.out]⟩) fun v w' hx' hv => hK v w' hx' hv
  ·exact zbc (za5 25 _ rfl W.heap.size 0 (hold 2 (by kernel_rfl)) zck zb5 rfl (zat ((hx.block _ (zad HB5.out)).trans HB5.out))) hK
  ·exact zbc (zb4 rfl (hold 1 (by kernel_rfl))) hK
  ·refine zeg (Φ := fun v _ => v = .int .i64 ans) (zc3 Tryz.func10 rfl rfl rfl (map_two (hf 3 32 (by omega) (by kernel_rfl) (by kernel_rfl)) (hf 4 33 (by omega) (by kernel_rfl) (by kernel_rfl)))) ((storeR_ok (fun b => b < W.heap.size) s [.slice A1 s.types.length c1, .slice A2 s.acts.length c2] l (.slice LA l.length lc) W5 (fun b hb => Nat.lt_of_lt_of_le hb (HX5.out.trans hx).size) (HSs.out.alike (Alike.of_ext (HX5.out.trans hx) fun _ h => h)) (HL.out.alike (Alike.of_ext (HX5.out.trans hx) fun _ h => h)) (by have := HLn.out; omega) (fun e he => by have := HEp.out e he; omega) (fun e he => by have := HEd.out e he; omega) (by have := HA10.out; omega) (fun a ha => by have := HI10.out a ha; omega) HOk.out.1).mono fun e w' hh => ⟨_, hh.1, hh.2, by rw [HAns.out]⟩) fun v w' hx' hv => hK v w' hx' hv
  ·exact zbc (exec_binX rfl (hf 2 31 (by omega) (by kernel_rfl) (by kernel_rfl)) (hf 5 34 (by omega) (by kernel_rfl) (by kernel_rfl)) (Tryz.eqErr ans ans _ _ W5 rfl)) hK
  ·exact zbc (zb4 rfl (hf 6 35 (by omega) (by kernel_rfl) (by kernel_rfl))) hK
  ·exact zbc (zb4 rfl (hold 8 (by kernel_rfl))) hK
  ·exact zbc (za5 25 _ rfl W.heap.size 0 (hold 2 (by kernel_rfl)) zck zb5 rfl (zat ((hx.block _ (zad HB5.out)).trans HB5.out))) hK
  ·refine zeg (Φ := fun v W => entR.RowsAt (fun b => b < W.heap.size) W (zaz s.acts) v) (zc3 Tryz.func12 rfl rfl rfl (map_one (hf 9 38 (by omega) (by kernel_rfl) (by kernel_rfl)))) ((actionsR_ok (fun b => b < W.heap.size) s [.slice A1 s.types.length c1, .slice A2 s.acts.length c2] W5 (fun b hb => Nat.lt_of_lt_of_le hb (HX5.out.trans hx).size) (HSs.out.alike (Alike.of_ext (HX5.out.trans hx) fun _ h => h))).mono fun e w' hh => ?_) fun v w' hx' hv => hK v w' hx' hv
   obtain ⟨v, rfl, ho, hx'⟩ := hh
   exact ⟨v, rfl, hx', ho.rows (by have := HAs.out.1; rw [zak]; omega)⟩
  ·refine zeg (Φ := fun v _ => v = .bool true) (zc3 Tryz.func11 rfl rfl rfl (map_two (hf 8 37 (by omega) (by kernel_rfl) (by kernel_rfl)) rfl)) ((wholeE_ok (fun b => b < W5.heap.size) (zaz s.acts) (.slice XA (zaz s.acts).length xc) _ W5 (fun _ h => h) ((HXa.out.alike (Alike.of_ext hx fun _ h => h)).mono fun b hb => Nat.lt_of_lt_of_le hb hx.size) (hf 10 39 (by omega) (by kernel_rfl) (by kernel_rfl))).mono fun e w' hh => ⟨_, hh.1, hh.2, rfl⟩) fun v w' hx' hv => hK v w' hx' hv
  ·exact zbc (exec_pick rfl (hf 7 36 (by omega) (by kernel_rfl) (by kernel_rfl)) (hf 11 40 (by omega) (by kernel_rfl) (by kernel_rfl))) hK
  ·exact zbc (zb4 rfl (hf 12 41 (by omega) (by kernel_rfl) (by kernel_rfl))) hK
  ·exact zbc (za5 25 _ rfl W.heap.size 0 (hold 2 (by kernel_rfl)) zck zb5 rfl (zat ((hx.block _ (zad HB5.out)).trans HB5.out))) hK
  ·exact zbc (zb4 rfl (hold 8 (by kernel_rfl))) hK
  ·refine zeg (Φ := fun v _ => v = .int .i64 0) (zc3 Tryz.func9 rfl rfl rfl (map_two (hf 14 43 (by omega) (by kernel_rfl) (by kernel_rfl)) (hf 15 44 (by omega) (by kernel_rfl) (by kernel_rfl)))) ((storeP_ok (fun b => b < W5.heap.size) s [.slice A1 s.types.length c1, .slice A2 s.acts.length c2] (zaz s.acts) (.slice XA (zaz s.acts).length xc) W5 (fun _ h => h) ((HSs.out.alike (Alike.of_ext (HX5.out.trans hx) fun _ h => h)).mono fun b hb => Nat.lt_of_lt_of_le hb (HX5.out.trans hx).size) ((HXa.out.alike (Alike.of_ext hx fun _ h => h)).mono fun b hb => Nat.lt_of_lt_of_le hb hx.size) (by have := HAs.out.1; omega) (fun e he => by have := HAs.out.2.1 e he; omega) HAs.out.2.2 (by have := HA10.out; omega) (fun a ha => by have := HI10.out a ha; omega)).mono fun e w' hh => ⟨_, hh.1, hh.2, by rw [H0.out]⟩) fun v w' hx' hv => hK v w' hx' hv
  ·exact zbc (exec_binX rfl (hf 16 45 (by omega) (by kernel_rfl) (by kernel_rfl)) rfl (Tryz.eqErr 0 0 _ _ W5 rfl)) hK
  ·exact zbc (exec_pick rfl (hf 13 42 (by omega) (by kernel_rfl) (by kernel_rfl)) (hf 17 46 (by omega) (by kernel_rfl) (by kernel_rfl))) hK
 intro xs W6 hlen hx hV
 obtain ⟨x0, x1, x2, x3, x4, x5, x6, x7, x8, x9, x10, x11, x12, x13, x14, x15, x16, x17, x18, rfl⟩ := list19 hlen
 have e18 : x18 = .bool true := hV 18 (by omega)
 subst e18
 have HX6 := q_ (HX5.out.trans hx)
 clear hV hlen hx
 simp only [List.take, List.drop, zaw, Act.put, List.setIfInBounds_toArray, List.set_cons_zero, List.set_cons_succ]
 go_wp2_with fail
 go_ret
 exact ⟨rfl, HX6.out⟩
end Go.Proofs.YtbkaffhbhimglaaGreat
