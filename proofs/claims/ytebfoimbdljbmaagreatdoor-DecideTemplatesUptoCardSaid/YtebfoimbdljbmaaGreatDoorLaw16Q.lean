/-
  DecideTemplates: what the statement's own function answers. The conditions: the arguments lie in memory as they should.
-/
import Derived.Test.YtebfoimbdljbmaaGreatDoorDecide0Q
import Derived.Test.YtebfoimbdljbmaaGreatDoorGl
import Derived.Test.YtebfoimbdljbmaaGreatDoorKnownQ
import Derived.Test.YtebfoimbdljbmaaGreatDoorExec2Q
namespace Go.Proofs.YtebfoimbdljbmaaGreatDoor
open Go.RowKit
open Lib renaming hid → q_
set_option maxRecDepth 100000
set_option maxHeartbeats 4000000
theorem fit1 (n : UInt8) : FitS ⟨#[n]⟩ := by
 unfold FitS
 rw [zat]
 show 1 ≤ _
 omega
def scpZ : Scp := ⟨0, ByteArray.empty, (ByteArray.empty, ByteArray.empty), false, []⟩
def scpK (k : Int) : Scp := ⟨k, ByteArray.empty, (ByteArray.empty, ByteArray.empty), false, []⟩
theorem scpK_at (S : Nat → Prop) (w : World) (k : Int) (hk : I64 k) : scpR.At S w (scpK k) [.int .i64 k, .string ByteArray.empty, .string ByteArray.empty, .string ByteArray.empty, .bool false, .slice none 0 0] := ⟨_, rfl, hk, zay, ⟨zay, zay⟩, Rep.RowsAt.nil _ _⟩
theorem zba (S : Nat → Prop) (w : World) : scpR.At S w scpZ [.int .i64 0, .string ByteArray.empty, .string ByteArray.empty, .string ByteArray.empty, .bool false, .slice none 0 0] := scpK_at S w 0 (by unfold I64; omega)
theorem holds_zero (u : Uid) : scpZ.holds [] u = (true, 0) := by simp [Scp.holds, scpZ]
theorem takes0_zero (q : Req) : zbb scpZ scpZ scpZ q = (true, 0) := by unfold zbb; simp [holds_zero]
theorem takes0_nine (q : Req) : zbb (scpK 9) scpZ scpZ q = (false, 1) := by unfold zbb; simp [Scp.holds, scpK]
def polA (n : UInt8) (b : Bool) : Pol := ⟨⟨#[n]⟩, b, scpZ, scpZ, scpZ⟩
def pol9 : Pol := ⟨⟨#[97]⟩, false, scpK 9, scpZ, scpZ⟩
theorem zbo (q : Req) (n : UInt8) (b : Bool) : (polA n b).told q = if b = true then 1 else 2 := by unfold Pol.told Pol.takes polA; simp [takes0_zero]
theorem told_9 (q : Req) : pol9.told q = 3 := by unfold Pol.told Pol.takes pol9; simp [takes0_nine]
def FirstS (w : World) (A : Option Addr) (l : List ByteArray) : Prop := ∀ s r, l = s :: r → ∃ g, A = some ⟨g, 0, none⟩ ∧ w.cell? ⟨g, 0, none⟩ = some (.string s)
theorem FirstS.ext {w w' : World} {A : Option Addr} {l : List ByteArray} (h : FirstS w A l) (k : Ext w w') : FirstS w' A l := fun s r e => by
 obtain ⟨g, h1, h2⟩ := h s r e
 exact ⟨g, h1, k.cell h2⟩
def DecIs (al : Bool) (why errs : List ByteArray) (nw ne : Nat) (w : World) (e : Ending) (w' : World) : Prop := ∃ A1 c1 A2 c2, e = .returned (.agg #[.bool al, .slice A1 nw c1, .slice A2 ne c2]) ∧ FirstS w' A1 why ∧ FirstS w' A2 errs ∧ Ext w w'
theorem first_own {w : World} {base : Nat} {T : TypeId} {A : Option Addr} {c : Nat} {l : List ByteArray} (h : w.ownsRow base T 1 (.slice A l.length c) l.length (l.map .string)) : FirstS w A l := fun s r e => by
 subst e
 obtain ⟨g, cap, e1, _, _, _, hc⟩ := own_cells h (by simp)
 injection e1 with e1
 exact ⟨g, e1, by have := hc 0 (.string s) (by simp); simpa using this⟩
theorem decPost_is {q : Req} {l : List Pol} {w w' : World} {e : Ending} {A B C why : List ByteArray} {al : Bool} (h : zbz q l w e w') (h1 : zas q 1 l = A) (h2 : zas q 2 l = B) (h3 : zas q 3 l = C) (ha : (!A.isEmpty && B.isEmpty) = al) (hw : (if B = [] then A else B) = why) : DecIs al why C why.length C.length w e w' := by
 obtain ⟨v1, v2, rfl, ho1, ho2, hx⟩ := h
 unfold whyP at ho1
 rw [h1, h2] at *
 rw [h3] at ho2
 rw [hw] at ho1
 obtain ⟨A1, c1, rfl⟩ := zap ho1
 obtain ⟨A2, c2, rfl⟩ := zap ho2
 exact ⟨A1, c1, A2, c2, by rw [ha], first_own ho1, first_own ho2, hx⟩
theorem za4 (q : Req) (v : Nat) (a b : Pol) : zas q v [a, b] = (if a.told q = v then [a.name] else []) ++ (if b.told q = v then [b.name] else []) := by
 rw [show [a, b] = ([] ++ [a]) ++ [b] from rfl, toldP_snoc, toldP_snoc]; rfl
theorem zbh (q : Req) (v : Nat) (a : Pol) : zas q v [a] = if a.told q = v then [a.name] else [] := by
 rw [show [a] = [] ++ [a] from rfl, toldP_snoc]; rfl
theorem polA_at (w : World) (n : UInt8) (b : Bool) : (polA n b).At w [.string ⟨#[n]⟩, .bool b, .int .i64 0, .string ByteArray.empty, .string ByteArray.empty, .string ByteArray.empty, .bool false, .slice none 0 0, .int .i64 0, .string ByteArray.empty, .string ByteArray.empty, .string ByteArray.empty, .bool false, .slice none 0 0, .int .i64 0, .string ByteArray.empty, .string ByteArray.empty, .string ByteArray.empty, .bool false, .slice none 0 0, .slice none 0 0] := ⟨_, _, _, rfl, zba _ _, zba _ _, zba _ _⟩
theorem pol9_at (w : World) : pol9.At w [.string ⟨#[97]⟩, .bool false, .int .i64 9, .string ByteArray.empty, .string ByteArray.empty, .string ByteArray.empty, .bool false, .slice none 0 0, .int .i64 0, .string ByteArray.empty, .string ByteArray.empty, .string ByteArray.empty, .bool false, .slice none 0 0, .int .i64 0, .string ByteArray.empty, .string ByteArray.empty, .string ByteArray.empty, .bool false, .slice none 0 0, .slice none 0 0] := ⟨_, _, _, rfl, scpK_at _ _ 9 (by unfold I64; omega), zba _ _, zba _ _⟩
theorem dec_A (w : World) : Calls Tryz.prog 25 #[.slice (some ⟨w.heap.size, 0, none⟩) 1 1, .agg ([.string ByteArray.empty, .string ByteArray.empty, .string ByteArray.empty, .string ByteArray.empty, .string ByteArray.empty, .string ByteArray.empty, .int .i64 0, .bool false, .int .i64 0, .string ByteArray.empty, .string ByteArray.empty, .string ByteArray.empty, .slice none 0 0, .slice none 0 0] : List Value).toArray, .pointer none] (w.alloc (.cells #[.string ⟨#[97]⟩, .bool true, .int .i64 0, .string ByteArray.empty, .string ByteArray.empty, .string ByteArray.empty, .bool false, .slice none 0 0, .int .i64 0, .string ByteArray.empty, .string ByteArray.empty, .string ByteArray.empty, .bool false, .slice none 0 0, .int .i64 0, .string ByteArray.empty, .string ByteArray.empty, .string ByteArray.empty, .bool false, .slice none 0 0, .slice none 0 0] 62)) (DecIs true [⟨#[97]⟩] [] 1 0 (w.alloc (.cells #[.string ⟨#[97]⟩, .bool true, .int .i64 0, .string ByteArray.empty, .string ByteArray.empty, .string ByteArray.empty, .bool false, .slice none 0 0, .int .i64 0, .string ByteArray.empty, .string ByteArray.empty, .string ByteArray.empty, .bool false, .slice none 0 0, .int .i64 0, .string ByteArray.empty, .string ByteArray.empty, .string ByteArray.empty, .bool false, .slice none 0 0, .slice none 0 0] 62))) := by
 have hr := heap_alloc_new w (.cells #[.string ⟨#[97]⟩, .bool true, .int .i64 0, .string ByteArray.empty, .string ByteArray.empty, .string ByteArray.empty, .bool false, .slice none 0 0, .int .i64 0, .string ByteArray.empty, .string ByteArray.empty, .string ByteArray.empty, .bool false, .slice none 0 0, .int .i64 0, .string ByteArray.empty, .string ByteArray.empty, .string ByteArray.empty, .bool false, .slice none 0 0, .slice none 0 0] 62)
 refine (decide0_ok [polA 97 true] reqZ _ w.heap.size 0 1 [.string ByteArray.empty, .string ByteArray.empty, .string ByteArray.empty, .string ByteArray.empty, .string ByteArray.empty, .string ByteArray.empty, .int .i64 0, .bool false, .int .i64 0, .string ByteArray.empty, .string ByteArray.empty, .string ByteArray.empty, .slice none 0 0, .slice none 0 0] (by simp) (by simp) (fun p hp => by simp at hp; subst hp; exact fit1 _) (fun v _ => by rw [zbh]; split <;> simp) (reqZ_at _ _) (by simp) (fun i p hi => ?_)).mono fun e w' h => decPost_is h (by rw [zbh, zbo] <;> rfl) (by rw [zbh, zbo] <;> rfl) (by rw [zbh, zbo] <;> rfl) rfl rfl
 match i, hi with
 | 0, hi => cases hi; exact ⟨_, polA_at _ _ _, zad hr⟩
theorem dec_9 (w : World) : Calls Tryz.prog 25 #[.slice (some ⟨w.heap.size, 0, none⟩) 1 1, .agg ([.string ByteArray.empty, .string ByteArray.empty, .string ByteArray.empty, .string ByteArray.empty, .string ByteArray.empty, .string ByteArray.empty, .int .i64 0, .bool false, .int .i64 0, .string ByteArray.empty, .string ByteArray.empty, .string ByteArray.empty, .slice none 0 0, .slice none 0 0] : List Value).toArray, .pointer none] (w.alloc (.cells #[.string ⟨#[97]⟩, .bool false, .int .i64 9, .string ByteArray.empty, .string ByteArray.empty, .string ByteArray.empty, .bool false, .slice none 0 0, .int .i64 0, .string ByteArray.empty, .string ByteArray.empty, .string ByteArray.empty, .bool false, .slice none 0 0, .int .i64 0, .string ByteArray.empty, .string ByteArray.empty, .string ByteArray.empty, .bool false, .slice none 0 0, .slice none 0 0] 62)) (DecIs false [] [⟨#[97]⟩] 0 1 (w.alloc (.cells #[.string ⟨#[97]⟩, .bool false, .int .i64 9, .string ByteArray.empty, .string ByteArray.empty, .string ByteArray.empty, .bool false, .slice none 0 0, .int .i64 0, .string ByteArray.empty, .string ByteArray.empty, .string ByteArray.empty, .bool false, .slice none 0 0, .int .i64 0, .string ByteArray.empty, .string ByteArray.empty, .string ByteArray.empty, .bool false, .slice none 0 0, .slice none 0 0] 62))) := by
 have hr := heap_alloc_new w (.cells #[.string ⟨#[97]⟩, .bool false, .int .i64 9, .string ByteArray.empty, .string ByteArray.empty, .string ByteArray.empty, .bool false, .slice none 0 0, .int .i64 0, .string ByteArray.empty, .string ByteArray.empty, .string ByteArray.empty, .bool false, .slice none 0 0, .int .i64 0, .string ByteArray.empty, .string ByteArray.empty, .string ByteArray.empty, .bool false, .slice none 0 0, .slice none 0 0] 62)
 refine (decide0_ok [pol9] reqZ _ w.heap.size 0 1 [.string ByteArray.empty, .string ByteArray.empty, .string ByteArray.empty, .string ByteArray.empty, .string ByteArray.empty, .string ByteArray.empty, .int .i64 0, .bool false, .int .i64 0, .string ByteArray.empty, .string ByteArray.empty, .string ByteArray.empty, .slice none 0 0, .slice none 0 0] (by simp) (by simp) (fun p hp => by simp at hp; subst hp; exact fit1 _) (fun v _ => by rw [zbh]; split <;> simp) (reqZ_at _ _) (by simp) (fun i p hi => ?_)).mono fun e w' h => decPost_is h (by rw [zbh, told_9] <;> rfl) (by rw [zbh, told_9] <;> rfl) (by rw [zbh, told_9] <;> rfl) rfl rfl
 match i, hi with
 | 0, hi => cases hi; exact ⟨_, pol9_at _, zad hr⟩
theorem dec_two (a b : Pol) (ca cb : List Value) (q : Req) (w : World) (qc : List Value) (al : Bool) (why errs A B : List ByteArray) (hnm : a.name ≠ b.name) (hfa : FitS a.name) (hfb : FitS b.name) (ha : ∀ W, Ext w W → a.At W ca) (hb : ∀ W, Ext w W → b.At W cb) (hla : ca.length = 21) (hq : InR w q qc)
  (h1 : zas q 1 [a, b] = A) (h2 : zas q 2 [a, b] = B) (h3 : zas q 3 [a, b] = errs) (hal : (!A.isEmpty && B.isEmpty) = al) (hw : (if B = [] then A else B) = why) (n1 : A.length ≤ 1) (n2 : B.length ≤ 1) (n3 : errs.length ≤ 1) :
  Calls Tryz.prog 25 #[.slice (some ⟨w.heap.size, 0, none⟩) 2 2, .agg qc.toArray, .pointer none] (w.alloc (.cells (ca ++ cb).toArray 62)) (DecIs al why errs why.length errs.length (w.alloc (.cells (ca ++ cb).toArray 62))) := by
 have hr := heap_alloc_new w (.cells (ca ++ cb).toArray 62)
 have hx := (Ext.refl w).alloc (.cells (ca ++ cb).toArray 62)
 refine (decide0_ok [a, b] q _ w.heap.size 0 2 qc (by simp) (by simpa using hnm) (fun p hp => by simp at hp; rcases hp with rfl | rfl <;> assumption) (fun v hv => ?_) (hq.ext hx) (by simp) (fun i p hi => ?_)).mono fun e w' h => decPost_is h h1 h2 h3 hal hw
 ·by_cases v1 : v = 1
  ·subst v1; rw [h1]; exact n1
  by_cases v2 : v = 2
  ·subst v2; rw [h2]; exact n2
  by_cases v3 : v = 3
  ·subst v3; rw [h3]; exact n3
  have ho : ∀ p : Pol, p.told q ≠ v := fun p => by
   unfold Pol.told
   split
   ·omega
   ·split
    ·split <;> omega
    ·omega
  rw [za4, if_neg (ho a), if_neg (ho b)]; simp
 ·match i, hi with
  | 0, hi => cases hi; exact ⟨ca, ha _ hx, fun j v hj => zad hr j v (by rw [List.getElem?_append_left (List.getElem?_eq_some_iff.1 hj).1]; exact hj)⟩
  | 1, hi => cases hi; exact ⟨cb, hb _ hx, by have := cells_part (pre := ca) (cs := cb) hr; rw [hla] at this; exact this⟩
theorem keep_in {w w' : World} {o c : Obj} {g : Nat} (h : w.heap[g]? = some c) (k : Ext w w') : (w'.alloc o).heap[g]? = some c := za0 ((k.block _ (zaf h)).trans h)
theorem awake16_ok (w : World) : Calls Tryz.prog 22 #[] w fun e w' => e = .returned (.bool true) ∧ Ext w w' := by
 have D1 := q_ (dec_A w)
 have HX0 := q_ ((Ext.refl w).alloc (.cells #[.string ⟨#[97]⟩, .bool true, .int .i64 0, .string ByteArray.empty, .string ByteArray.empty, .string ByteArray.empty, .bool false, .slice none 0 0, .int .i64 0, .string ByteArray.empty, .string ByteArray.empty, .string ByteArray.empty, .bool false, .slice none 0 0, .int .i64 0, .string ByteArray.empty, .string ByteArray.empty, .string ByteArray.empty, .bool false, .slice none 0 0, .slice none 0 0] 62))
 go_enter Tryz.func22, Tryz.ntmps22
 go_wp2_with fail
 refine D1.out.mono ?_
 rintro r1 w1 ⟨A1, c1, A2, c2, rfl, -, -, hx1⟩
 have HX1 := q_ ((HX0.out.trans hx1).alloc (.cells #[.bool true, .slice A1 1 c1, .slice A2 0 c2] 66))
 have HB1 := q_ (heap_alloc_new w1 (.cells #[.bool true, .slice A1 1 c1, .slice A2 0 c2] 66))
 have d2 := dec_two (polA 97 true) (polA 98 false) [.string ⟨#[97]⟩, .bool true, .int .i64 0, .string ByteArray.empty, .string ByteArray.empty, .string ByteArray.empty, .bool false, .slice none 0 0, .int .i64 0, .string ByteArray.empty, .string ByteArray.empty, .string ByteArray.empty, .bool false, .slice none 0 0, .int .i64 0, .string ByteArray.empty, .string ByteArray.empty, .string ByteArray.empty, .bool false, .slice none 0 0, .slice none 0 0] [.string ⟨#[98]⟩, .bool false, .int .i64 0, .string ByteArray.empty, .string ByteArray.empty, .string ByteArray.empty, .bool false, .slice none 0 0, .int .i64 0, .string ByteArray.empty, .string ByteArray.empty, .string ByteArray.empty, .bool false, .slice none 0 0, .int .i64 0, .string ByteArray.empty, .string ByteArray.empty, .string ByteArray.empty, .bool false, .slice none 0 0, .slice none 0 0] reqZ (w1.alloc (.cells #[.bool true, .slice A1 1 c1, .slice A2 0 c2] 66)) [.string ByteArray.empty, .string ByteArray.empty, .string ByteArray.empty, .string ByteArray.empty, .string ByteArray.empty, .string ByteArray.empty, .int .i64 0, .bool false, .int .i64 0, .string ByteArray.empty, .string ByteArray.empty, .string ByteArray.empty, .slice none 0 0, .slice none 0 0] false [⟨#[98]⟩] [] [⟨#[97]⟩] [⟨#[98]⟩] (by show (⟨#[97]⟩ : ByteArray) ≠ ⟨#[98]⟩; decide) (fit1 _) (fit1 _) (fun W _ => polA_at _ _ _) (fun W _ => polA_at _ _ _) rfl (reqZ_at _ _) (by rw [za4, zbo, zbo] <;> rfl) (by rw [za4, zbo, zbo] <;> rfl) (by rw [za4, zbo, zbo] <;> rfl) rfl rfl (by simp) (by simp) (by simp)
 have hs1 : (w1.alloc (.cells #[.bool true, .slice A1 1 c1, .slice A2 0 c2] 66)).heap.size = w1.heap.size + 1 := by simp
 rw [hs1] at d2
 have D2 := q_ d2
 have Hy := q_ ((Ext.refl (w1.alloc (.cells #[.bool true, .slice A1 1 c1, .slice A2 0 c2] 66))).alloc (.cells #[.string ⟨#[97]⟩, .bool true, .int .i64 0, .string ByteArray.empty, .string ByteArray.empty, .string ByteArray.empty, .bool false, .slice none 0 0, .int .i64 0, .string ByteArray.empty, .string ByteArray.empty, .string ByteArray.empty, .bool false, .slice none 0 0, .int .i64 0, .string ByteArray.empty, .string ByteArray.empty, .string ByteArray.empty, .bool false, .slice none 0 0, .slice none 0 0, .string ⟨#[98]⟩, .bool false, .int .i64 0, .string ByteArray.empty, .string ByteArray.empty, .string ByteArray.empty, .bool false, .slice none 0 0, .int .i64 0, .string ByteArray.empty, .string ByteArray.empty, .string ByteArray.empty, .bool false, .slice none 0 0, .int .i64 0, .string ByteArray.empty, .string ByteArray.empty, .string ByteArray.empty, .bool false, .slice none 0 0, .slice none 0 0] 62))
 clear hx1 D1 HX0 d2 hs1
 go_wp2_with fail
 refine D2.out.mono ?_
 rintro r2 w2 ⟨B1, d1, B2, d2, rfl, f2, -, hx2⟩
 have hy2 : Ext (w1.alloc (.cells #[.bool true, .slice A1 1 c1, .slice A2 0 c2] 66)) w2 := Hy.out.trans hx2
 obtain ⟨g, rfl, hg⟩ := f2 _ _ rfl
 have HX2 := q_ ((HX1.out.trans hy2).alloc (.cells #[.bool false, .slice (some ⟨g, 0, none⟩) 1 d1, .slice B2 0 d2] 66))
 have HB1b := q_ (keep_in (o := (.cells #[.bool false, .slice (some ⟨g, 0, none⟩) 1 d1, .slice B2 0 d2] 66)) HB1.out hy2)
 have HB2 := q_ (heap_alloc_new w2 (.cells #[.bool false, .slice (some ⟨g, 0, none⟩) 1 d1, .slice B2 0 d2] 66))
 have Hg2 := q_ (((Ext.refl w2).alloc (.cells #[.bool false, .slice (some ⟨g, 0, none⟩) 1 d1, .slice B2 0 d2] 66)).cell hg)
 have D3 := q_ (dec_9 (w2.alloc (.cells #[.bool false, .slice (some ⟨g, 0, none⟩) 1 d1, .slice B2 0 d2] 66)))
 have hs2 : (w2.alloc (.cells #[.bool false, .slice (some ⟨g, 0, none⟩) 1 d1, .slice B2 0 d2] 66)).heap.size = w2.heap.size + 1 := by simp
 rw [hs2] at D3
 have Hz := q_ ((Ext.refl (w2.alloc (.cells #[.bool false, .slice (some ⟨g, 0, none⟩) 1 d1, .slice B2 0 d2] 66))).alloc (.cells #[.string ⟨#[97]⟩, .bool false, .int .i64 9, .string ByteArray.empty, .string ByteArray.empty, .string ByteArray.empty, .bool false, .slice none 0 0, .int .i64 0, .string ByteArray.empty, .string ByteArray.empty, .string ByteArray.empty, .bool false, .slice none 0 0, .int .i64 0, .string ByteArray.empty, .string ByteArray.empty, .string ByteArray.empty, .bool false, .slice none 0 0, .slice none 0 0] 62))
 clear hx2 hy2 D2 HX1 HB1 Hy f2 hg hs2
 go_wp2_with fail
 refine D3.out.mono ?_
 rintro r3 w3 ⟨C1, e1, C2, e2, rfl, -, -, hx3⟩
 have hy3 : Ext (w2.alloc (.cells #[.bool false, .slice (some ⟨g, 0, none⟩) 1 d1, .slice B2 0 d2] 66)) w3 := Hz.out.trans hx3
 have HX3 := q_ ((HX2.out.trans hy3).alloc (.cells #[.bool false, .slice C1 0 e1, .slice C2 1 e2] 66))
 have HB1c := q_ (keep_in (o := (.cells #[.bool false, .slice C1 0 e1, .slice C2 1 e2] 66)) HB1b.out hy3)
 have HB2c := q_ (keep_in (o := (.cells #[.bool false, .slice C1 0 e1, .slice C2 1 e2] 66)) HB2.out hy3)
 have HB3 := q_ (heap_alloc_new w3 (.cells #[.bool false, .slice C1 0 e1, .slice C2 1 e2] 66))
 have Hg3 := q_ (((hy3.alloc (.cells #[.bool false, .slice C1 0 e1, .slice C2 1 e2] 66))).cell Hg2.out)
 have hT := takes0_ok ByteArray.empty false scpZ scpZ scpZ reqZ (w3.alloc (.cells #[.bool false, .slice C1 0 e1, .slice C2 1 e2] 66)) [.int .i64 0, .string ByteArray.empty, .string ByteArray.empty, .string ByteArray.empty, .bool false, .slice none 0 0] [.int .i64 0, .string ByteArray.empty, .string ByteArray.empty, .string ByteArray.empty, .bool false, .slice none 0 0] [.int .i64 0, .string ByteArray.empty, .string ByteArray.empty, .string ByteArray.empty, .bool false, .slice none 0 0] [.string ByteArray.empty, .string ByteArray.empty, .string ByteArray.empty, .string ByteArray.empty, .string ByteArray.empty, .string ByteArray.empty, .int .i64 0, .bool false, .int .i64 0, .string ByteArray.empty, .string ByteArray.empty, .string ByteArray.empty, .slice none 0 0, .slice none 0 0] (zba _ _) (zba _ _) (zba _ _) (reqZ_at _ _)
 rw [takes0_zero] at hT
 have HT := q_ hT
 clear hx3 hy3 D3 HX2 HB1b HB2 Hz Hg2 hT
 go_wp2_with fail
 refine HT.out.mono ?_
 rintro r4 w4 ⟨rfl, hx4⟩
 have HX4 := q_ (HX3.out.trans hx4)
 have hb1 := (hx4.block _ (zaf HB1c.out)).trans HB1c.out
 have hb2 := (hx4.block _ (zaf HB2c.out)).trans HB2c.out
 have hb3 := (hx4.block _ (zaf HB3.out)).trans HB3.out
 have k10 : w4.cell? ⟨w1.heap.size, 0, none⟩ = some (.bool true) := cell_of_row _ _ 0 _ _ _ hb1
 have k11 : w4.cell? ⟨w1.heap.size, 1, none⟩ = some (.slice A1 1 c1) := cell_of_row _ _ 1 _ _ _ hb1
 have k20 : w4.cell? ⟨w2.heap.size, 0, none⟩ = some (.bool false) := cell_of_row _ _ 0 _ _ _ hb2
 have k21 : w4.cell? ⟨w2.heap.size, 1, none⟩ = some (.slice (some ⟨g, 0, none⟩) 1 d1) := cell_of_row _ _ 1 _ _ _ hb2
 have k32 : w4.cell? ⟨w3.heap.size, 2, none⟩ = some (.slice C2 1 e2) := cell_of_row _ _ 2 _ _ _ hb3
 have kg : w4.cell? ⟨g, 0, none⟩ = some (.string ⟨#[98]⟩) := hx4.cell Hg3.out
 clear hx4 hb1 hb2 hb3 HT HX3 HB1c HB2c HB3 Hg3
 go_wp2_with fail
 go_ret
 exact ⟨rfl, HX4.out⟩
theorem Tryz.rowPl2 (xs ys : List Value) (hx : xs.length = 21) (hy : ys.length = 21) (w : World) : (Instr.buildSlice 68 2 #[(0, .agg xs.toArray), (1, .agg ys.toArray)]).run Tryz.prog w = .ok (.slice (some ⟨w.heap.size, 0, none⟩) 2 2) (w.alloc (.cells (xs ++ ys).toArray 62)) := by
 match xs, ys, hx, hy with
 | [a0, a1, a2, a3, a4, a5, a6, a7, a8, a9, a10, a11, a12, a13, a14, a15, a16, a17, a18, a19, a20], [b0, b1, b2, b3, b4, b5, b6, b7, b8, b9, b10, b11, b12, b13, b14, b15, b16, b17, b18, b19, b20], _, _ => simp [Instr.buildSlice, go_sem]
theorem wpList_pols {ops : Array Oper} {rest : List Oper} {o : Oper} {a : Act} {w : World} {Q : Exit → Act → World → Prop} (hgd : o.guard = none) (x y : Operand) (ho : o.op = .buildSlice 68 2 #[(0, x), (1, y)]) (xs ys : List Value) (hx : a.eval x = .agg xs.toArray) (hy : a.eval y = .agg ys.toArray) (h1 : xs.length = 21) (h2 : ys.length = 21)
  (hk : ∀ w', w' = w.alloc (.cells (xs ++ ys).toArray 62) → wpList Tryz.prog ops Q rest (a.put o.dst (.slice (some ⟨w.heap.size, 0, none⟩) 2 2)) w') : wpList Tryz.prog ops Q (o :: rest) a w :=
 wpList_plain hgd fun K hK => by
  unfold Oper.wp execOp
  simp only [ho, List.map_toArray, List.map_cons, List.map_nil, hx, hy]
  simp [Tryz.rowPl2 xs ys h1 h2 w]
  exact hK _ _ (hk _ rfl)
theorem at_bslice {P : Program} {ops : Array Oper} {rest : List Oper} {Q : Exit → Act → World → Prop} {a : Act} {w : World} {d : Option Nat} {ty : TypeId} {n : Nat} {xs : Array (Nat × Operand)} {T : TypeId} {p : String} {af : Array Edge} (h : wpList P ops Q ({ dst := d, op := .buildSlice ty n xs, type := T, pos := p, after := af, guard := none } :: rest) a w) : wpList P ops Q ({ dst := d, op := .buildSlice ty n xs, type := T, pos := p, after := af, guard := none } :: rest) a w := h
theorem zal {P : Program} {o : Oper} {a : Act} {w : World} {K : Act → World → Prop} {Q : Exit → Act → World → Prop} {v0 : Value} (hrun : (execOp a.eval o).run P w = .ok (.value v0) w) (hk : ∀ v w', Ext w w' → v = v0 → K (a.put o.dst v) w') : o.wp P a w K Q :=
 zbl (Φ := fun v _ => v = v0) hrun (Ext.refl w) rfl hk
theorem exec_buildN16 {P : Program} {o : Oper} {a : Act} {w w' : World} (ty : TypeId) (n : Nat) (parts : Array (Nat × Operand)) (ho : o.op = .buildSlice ty n parts) {ys : Array (Nat × Value)} {v' : Value} (hx : parts.map (fun p => (p.1, a.eval p.2)) = ys) (hf : (Instr.buildSlice ty n ys).run P w = .ok v' w') : (execOp a.eval o).run P w = .ok (.value v') w' := by
 unfold execOp
 simp only [ho, hx]
 simp [hf]
def ScK (g0 : Nat) (which m : Int) (j : Nat) (K : Int) (qs : ByteArray) (lo : Nat) : Nat → Value → World → Prop
 | 0, v, W => ∃ A, v = .slice (some ⟨A, 0, none⟩) 3 3 ∧ W.heap[A]? = some (.cells #[.int .i64 1, .int .i64 2, .int .i64 4] 3 (0, 0))
 | 1, v, _ => v = .int .i64 which
 | 2, v, _ => v = .int .i64 m
 | 3, v, _ => v = .int .i64 (j : Int)
 | 4, v, W => ∃ A, v = .pointer (some ⟨A, 0 + j * 1, none⟩) ∧ W.heap[A]? = some (.cells #[.int .i64 1, .int .i64 2, .int .i64 4] 3 (0, 0))
 | 5, v, _ => v = .int .i64 K
 | 6, v, _ => v = .pointer (some ⟨g0, 4, none⟩)
 | 7, v, _ => v = .pointer (some ⟨g0, 4, none⟩)
 | 8, v, _ => v = .string qs
 | 9, v, _ => v = .agg #[.int .i64 K, .string qs, .string ByteArray.empty, .string ByteArray.empty, .bool true, .slice none 0 0]
 | _, v, W => ∃ g, v = .pointer (some ⟨g, 0, none⟩) ∧ lo ≤ g ∧ W.heap[g]? = some (.cells #[.int .i64 0, .string ByteArray.empty, .string ByteArray.empty, .string ByteArray.empty, .bool false, .slice none 0 0] 52 (0, 0))
theorem ScK.ext {g0 : Nat} {which m : Int} {j : Nat} {K : Int} {qs : ByteArray} {lo : Nat} (i : Nat) (v : Value) (W W' : World) (h : ScK g0 which m j K qs lo i v W) (k : Ext W W') : ScK g0 which m j K qs lo i v W' := by
 unfold ScK at h ⊢
 split at h
 case h_1 => obtain ⟨A, h1, h2⟩ := h; exact ⟨A, h1, (k.block _ (zaf h2)).trans h2⟩
 case h_5 => obtain ⟨A, h1, h2⟩ := h; exact ⟨A, h1, (k.block _ (zaf h2)).trans h2⟩
 case h_11 => obtain ⟨g, h0, h1, h2⟩ := h; exact ⟨g, h0, h1, (k.block _ (zaf h2)).trans h2⟩
 all_goals exact h
theorem Tryz.fieldQr (g : Nat) : ∀ w, (Instr.fieldAt 34 (.pointer (some ⟨g, 0, none⟩)) 2).run Tryz.prog w = .ok (.pointer (some ⟨g, 4, none⟩)) w := by
 intro w; kernel_rfl
theorem Tryz.fieldQt (g : Nat) : ∀ w, (Instr.fieldAt 23 (.pointer (some ⟨g, 4, none⟩)) 0).run Tryz.prog w = .ok (.pointer (some ⟨g, 4, none⟩)) w := by
 intro w; kernel_rfl
theorem Tryz.and255 (n m : Int) (h : bits .and .i64 n 255 = m) (p q : Operand) (w : World) : (do eqGuard .and 3 p q (.int .i64 n) (.int .i64 255); binOp .and 3 (.int .i64 n) (.int .i64 255) : Sem Value).run Tryz.prog w = .ok (.int .i64 m) w := by
 simp [go_sem, binOp, eqGuard, h]
theorem Tryz.rem3 (m j : Int) (h : m.tmod 3 = j) (p q : Operand) (w : World) : (do eqGuard .rem 3 p q (.int .i64 m) (.int .i64 3); binOp .rem 3 (.int .i64 m) (.int .i64 3) : Sem Value).run Tryz.prog w = .ok (.int .i64 j) w := by
 simp [go_sem, binOp, eqGuard, h]
theorem Tryz.buildI3 : ∀ w, (Instr.buildSlice 63 3 #[(0, .int .i64 1), (1, .int .i64 2), (2, .int .i64 4)]).run Tryz.prog w = .ok (.slice (some ⟨w.heap.size, 0, none⟩) 3 3) (w.alloc (.cells #[.int .i64 1, .int .i64 2, .int .i64 4] 3)) := by
 intro w; simp [Instr.buildSlice, go_sem]
theorem Tryz.undI : Tryz.prog.underlying 63 = some (.slice (Tryz.prog.elem 63)) := by kernel_rfl
theorem Tryz.sizI : ∀ w, (Go.sizeOf (Tryz.prog.elem 63)).run Tryz.prog w = .ok 1 w := fun _ => by kernel_rfl
theorem Tryz.aggI : ∀ w, (isAgg 3).run Tryz.prog w = .ok false w := fun _ => by kernel_rfl
theorem Tryz.aggStr : ∀ w, (isAgg 9).run Tryz.prog w = .ok false w := fun _ => by kernel_rfl
theorem Tryz.bldSc (K : Int) (s : ByteArray) (w : World) : (Instr.build 52 #[(0, .int .i64 K), (1, .string s), (3, .bool true)]).run Tryz.prog w = .ok (.agg #[.int .i64 K, .string s, .string ByteArray.empty, .string ByteArray.empty, .bool true, .slice none 0 0]) w := by
 kernel_rfl
theorem Tryz.allocSc : ∀ w, (Instr.alloc 52 true (.tuple #[])).run Tryz.prog w = .ok (.pointer (some ⟨w.heap.size, 0, none⟩)) (w.alloc (.cells #[.int .i64 0, .string ByteArray.empty, .string ByteArray.empty, .string ByteArray.empty, .bool false, .slice none 0 0] 52)) := by
 intro w; simp [Instr.alloc, go_sem]; rfl
theorem list11k {α : Type} {l : List α} (h : l.length = 11) : ∃ a0 a1 a2 a3 a4 a5 a6 a7 a8 a9 a10, l = [a0, a1, a2, a3, a4, a5, a6, a7, a8, a9, a10] := by
 match l, h with
 | [a0, a1, a2, a3, a4, a5, a6, a7, a8, a9, a10], _ => exact ⟨_, _, _, _, _, _, _, _, _, _, _, rfl⟩
theorem dt_slot (which : Int) (m j : Nat) (K : Int) (q : Req) (W : World) (qc : List Value) (hq : InR W q qc) (hf : q.pr.1.size < 9223372036854775807) (hb : bits .and .i64 which 255 = (m : Int)) (hj : (m : Int).tmod 3 = (j : Int)) (hjK : (j = 0 ∧ K = 1) ∨ (j = 1 ∧ K = 2) ∨ (j = 2 ∧ K = 4)) :
  Calls Tryz.prog 8 #[.bool false, .int .i64 which, .agg qc.toArray] W fun e W' => e = .returned (.bool true) ∧ Ext W W' := by
 have HQi := q_ hq
 have HFit := q_ hf
 have HjK := q_ hjK
 have HK := q_ (show K = 1 ∨ K = 2 ∨ K = 4 by omega)
 have hj3 : j < 3 := by omega
 obtain ⟨_, hqe, ⟨_, _, hfr⟩, _⟩ := id hq
 clear hqe
 have HRes := q_ hfr.1
 obtain ⟨vk, vb, vn, vs, vt, vu, vA, vl, vc, vB, vm, vd, rfl, hv⟩ := hq.shape
 have HV := q_ hv
 have HX0 := q_ ((Ext.refl W).alloc (.cells #[.string q.pr.1, .string q.pr.2, .string q.act.1, .string q.act.2, .string q.res.1, .string q.res.2, .int .i64 vk, .bool vb, .int .i64 vn, .string vs, .string vt, .string vu, .slice vA vl vc, .slice vB vm vd] 34))
 have HQ0 := q_ (heap_alloc_new W (.cells #[.string q.pr.1, .string q.pr.2, .string q.act.1, .string q.act.2, .string q.res.1, .string q.res.2, .int .i64 vk, .bool vb, .int .i64 vn, .string vs, .string vt, .string vu, .slice vA vl vc, .slice vB vm vd] 34))
 clear hq hf hjK hfr hv
 go_enter Tryz.func8, Tryz.ntmps8
 go_wp2_with fail
 refine (awake16_ok _).mono ?_
 rintro r1 w1 ⟨rfl, hx1⟩
 have HX1 := q_ (HX0.out.trans hx1)
 have HQ1 := q_ ((hx1.block _ (zaf HQ0.out)).trans HQ0.out)
 have HCm : Hid (CellsAt w1 W.heap.size 6 [.int .i64 vk, .bool vb, .int .i64 vn, .string vs, .string vt, .string vu, .slice vA vl vc, .slice vB vm vd]) := q_ (zag (pre := [.string q.pr.1, .string q.pr.2, .string q.act.1, .string q.act.2, .string q.res.1, .string q.res.2]) (cs := [.int .i64 vk, .bool vb, .int .i64 vn, .string vs, .string vt, .string vu, .slice vA vl vc, .slice vB vm vd]) (r := []) HQ1.out)
 have HS := q_ (slight_ok16 _ q.ctx 0 (fun b => b < w1.heap.size) w1 [.int .i64 vk, .bool vb, .int .i64 vn, .string vs, .string vt, .string vu, .slice vA vl vc, .slice vB vm vd] (Nat.le_refl _) (by omega) (fun b h => h) ((HV.out.alike (Alike.of_ext HX1.out fun _ h => h)).mono fun b hb => Nat.lt_of_lt_of_le hb HX1.out.size))
 clear hx1 HX0 HQ0
 go_wp2_with ((with_reducible refine zae ?_; refine zaa rfl 27 _ rfl W.heap.size 6 rfl zb4 zbp (cs := [.int .i64 vk, .bool vb, .int .i64 vn, .string vs, .string vt, .string vu, .slice vA vl vc, .slice vB vm vd]) rfl HCm.out ?_))
 refine HS.out.mono ?_
 rintro r2 w2 ⟨r, -, rfl, hx2⟩
 have HX2 := q_ (HX1.out.trans hx2)
 have HQ2 := q_ ((hx2.block _ (zaf HQ1.out)).trans HQ1.out)
 clear hx2 HX1 HQ1 HCm HS
 cases r with
 | false =>
  as_aux_lemma =>
  go_wp2_with fail
  go_ret
  exact ⟨rfl, HX2.out⟩
 | true =>
 as_aux_lemma =>
 have Hlt := q_ (show W.heap.size < w2.heap.size from zaf HQ2.out)
 obtain ⟨L, hL⟩ : ∃ L : List Value, L = [.string ⟨#[116]⟩, .bool true, .int .i64 0, .string ByteArray.empty, .string ByteArray.empty, .string ByteArray.empty, .bool false, .slice none 0 0, .int .i64 0, .string ByteArray.empty, .string ByteArray.empty, .string ByteArray.empty, .bool false, .slice none 0 0, .int .i64 K, .string q.res.1, .string ByteArray.empty, .string ByteArray.empty, .bool true, .slice none 0 0, .slice none 0 0] := ⟨_, rfl⟩
 have HLe := q_ hL
 have HLn : Hid (L.length = 21) := q_ (by rw [hL]; rfl)
 clear hL
 have Hj3 := q_ hj3
 have Hb := q_ hb
 have Hj := q_ hj
 clear hb hj hj3
 go_wp2_with (((with_reducible refine za6 ?_); refine zar rfl 62 _ _ rfl w2.heap.size 0 rfl [.string ⟨#[116]⟩, .bool true, .int .i64 0, .string ByteArray.empty, .string ByteArray.empty, .string ByteArray.empty, .bool false, .slice none 0 0, .int .i64 0, .string ByteArray.empty, .string ByteArray.empty, .string ByteArray.empty, .bool false, .slice none 0 0, .int .i64 0, .string ByteArray.empty, .string ByteArray.empty, .string ByteArray.empty, .bool false, .slice none 0 0, .slice none 0 0] rfl zaz rfl 62 #[.string ByteArray.empty, .bool false, .int .i64 0, .string ByteArray.empty, .string ByteArray.empty, .string ByteArray.empty, .bool false, .slice none 0 0, .int .i64 0, .string ByteArray.empty, .string ByteArray.empty, .string ByteArray.empty, .bool false, .slice none 0 0, .int .i64 0, .string ByteArray.empty, .string ByteArray.empty, .string ByteArray.empty, .bool false, .slice none 0 0, .slice none 0 0] (heap_alloc_new w2 _) (by simp) (by simp [Value.oneCell']) [.string ⟨#[116]⟩, .bool true, .int .i64 0, .string ByteArray.empty, .string ByteArray.empty, .string ByteArray.empty, .bool false, .slice none 0 0, .int .i64 0, .string ByteArray.empty, .string ByteArray.empty, .string ByteArray.empty, .bool false, .slice none 0 0, .int .i64 0, .string ByteArray.empty, .string ByteArray.empty, .string ByteArray.empty, .bool false, .slice none 0 0, .slice none 0 0] (by first | rfl | simp) ?_; intro w3 hp3 hg3))
 have HP3 := q_ hp3
 have HX3 := q_ (zak (HX2.out.alloc (.cells #[.string ByteArray.empty, .bool false, .int .i64 0, .string ByteArray.empty, .string ByteArray.empty, .string ByteArray.empty, .bool false, .slice none 0 0, .int .i64 0, .string ByteArray.empty, .string ByteArray.empty, .string ByteArray.empty, .bool false, .slice none 0 0, .int .i64 0, .string ByteArray.empty, .string ByteArray.empty, .string ByteArray.empty, .bool false, .slice none 0 0, .slice none 0 0] 62)) hg3 (fun b e => by have := HX2.out.size; injection e with e; omega))
 have HQ3 := q_ ((hg3.block _ (zaf (za0 HQ2.out)) (by have := Hlt.out; intro e; injection e with e; omega)).trans (za0 HQ2.out))
 clear hp3 hg3
 refine region_known 11 (ScK W.heap.size which m j K q.res.1 w3.heap.size) (by kernel_rfl) (by kernel_rfl) (by kernel_rfl) (fun i v W W' => ScK.ext i v W W') (fun i o jj b hi ho hg => ?_) (fun i o hi ho W5 c hx hold hf Q' K' hK => ?_) ?_
 ·as_aux_lemma =>
  rcases (by omega : i = 0 ∨ i = 1 ∨ i = 2 ∨ i = 3 ∨ i = 4 ∨ i = 5 ∨ i = 6 ∨ i = 7 ∨ i = 8 ∨ i = 9 ∨ i = 10) with rfl | rfl | rfl | rfl | rfl | rfl | rfl | rfl | rfl | rfl | rfl <;> obtain rfl := Option.some.inj ho <;> cases hg
 ·as_aux_lemma =>
  rcases (by omega : i = 0 ∨ i = 1 ∨ i = 2 ∨ i = 3 ∨ i = 4 ∨ i = 5 ∨ i = 6 ∨ i = 7 ∨ i = 8 ∨ i = 9 ∨ i = 10) with rfl | rfl | rfl | rfl | rfl | rfl | rfl | rfl | rfl | rfl | rfl <;> obtain rfl := Option.some.inj ho
  ·exact zbl (exec_buildN16 _ _ _ rfl (by simp only [List.map_toArray, List.map_cons, List.map_nil]; rfl) (Tryz.buildI3 W5)) ((Ext.refl W5).alloc _) ⟨_, rfl, heap_alloc_new W5 _⟩ hK
  ·exact zal (exec_move rfl (hold 1 (by kernel_rfl))) hK
  ·exact zal (exec_binX rfl (hf 1 24 (by omega) (by kernel_rfl) (by kernel_rfl)) rfl (Tryz.and255 _ _ Hb.out _ _ W5)) hK
  ·exact zal (exec_binX rfl (hf 2 25 (by omega) (by kernel_rfl) (by kernel_rfl)) rfl (Tryz.rem3 _ _ Hj.out _ _ W5)) hK
  ·obtain ⟨A, e1, e2⟩ : ∃ A, c.eval (.tmp 23) = .slice (some ⟨A, 0, none⟩) 3 3 ∧ W5.heap[A]? = some (.cells #[.int .i64 1, .int .i64 2, .int .i64 4] 3 (0, 0)) := (hf 0 23 (by omega) (by kernel_rfl) (by kernel_rfl))
   exact zbl (exec_index rfl e1 (hf 3 26 (by omega) (by kernel_rfl) (by kernel_rfl)) Tryz.undI Tryz.sizI Hj3.out) (Ext.refl W5) ⟨A, rfl, e2⟩ hK
  ·obtain ⟨A, e1, e2⟩ : ∃ A, c.eval (.tmp 27) = .pointer (some ⟨A, 0 + j * 1, none⟩) ∧ W5.heap[A]? = some (.cells #[.int .i64 1, .int .i64 2, .int .i64 4] 3 (0, 0)) := (hf 4 27 (by omega) (by kernel_rfl) (by kernel_rfl))
   refine zal (zbj 3 _ rfl A (0 + j * 1) e1 Tryz.aggI ?_) hK
   rw [cell_of_row _ _ _ _ _ _ e2]
   rcases HjK.out with ⟨rfl, rfl⟩ | ⟨rfl, rfl⟩ | ⟨rfl, rfl⟩ <;> rfl
  ·exact zal (exec_field 34 _ 2 rfl (hold 5 (by kernel_rfl)) (Tryz.fieldQr _)) hK
  ·exact zal (exec_field 23 _ 0 rfl (hf 6 29 (by omega) (by kernel_rfl) (by kernel_rfl)) (Tryz.fieldQt _)) hK
  ·exact zal (zbj 9 _ rfl W.heap.size 4 (hf 7 30 (by omega) (by kernel_rfl) (by kernel_rfl)) Tryz.aggStr (cell_of_row _ _ 4 _ _ _ ((hx.block _ (zaf HQ3.out)).trans HQ3.out))) hK
  ·have k1 : c.eval (.tmp 28) = .int .i64 K := (hf 5 28 (by omega) (by kernel_rfl) (by kernel_rfl))
   have k2 : c.eval (.tmp 31) = .string q.res.1 := (hf 8 31 (by omega) (by kernel_rfl) (by kernel_rfl))
   exact zal (exec_bldX rfl (by simp only [List.map_toArray, List.map_cons, List.map_nil, k1, k2]; rfl) (Tryz.bldSc K q.res.1 W5)) hK
  ·exact zbl (exec_alloc rfl (Tryz.allocSc W5)) ((Ext.refl W5).alloc _) ⟨_, rfl, hx.size, heap_alloc_new W5 _⟩ hK
 as_aux_lemma =>
 intro xs w4 hlen hx4 hV
 obtain ⟨a0, a1, a2, a3, a4, a5, a6, a7, a8, a9, a10, rfl⟩ := list11k hlen
 have e9 : a9 = .agg #[.int .i64 K, .string q.res.1, .string ByteArray.empty, .string ByteArray.empty, .bool true, .slice none 0 0] := hV 9 (by omega)
 obtain ⟨g, e10, hg1, hg2⟩ : ∃ g, a10 = .pointer (some ⟨g, 0, none⟩) ∧ w3.heap.size ≤ g ∧ w4.heap[g]? = some (.cells #[.int .i64 0, .string ByteArray.empty, .string ByteArray.empty, .string ByteArray.empty, .bool false, .slice none 0 0] 52 (0, 0)) := hV 10 (by omega)
 subst e9 e10
 have hgl : w2.heap.size < g := by
  have := zaf HP3.out
  omega
 have HGl := q_ hgl
 have HSz := q_ hg2
 have HX4 := q_ (HX3.out.trans hx4)
 have HP4 := q_ ((hx4.block _ (zaf HP3.out)).trans HP3.out)
 have HQ4 := q_ ((hx4.block _ (zaf HQ3.out)).trans HQ3.out)
 clear hV hlen hx4 hg1 hg2 hgl HX3 HP3 HQ3 Hj3 Hb Hj
 simp only [List.take, List.drop, zao, Act.put, List.setIfInBounds_toArray, List.set_cons_zero, List.set_cons_succ]
 go_wp2_with (first | ((with_reducible refine za6 ?_); refine zar rfl 52 _ _ rfl g 0 rfl [.int .i64 K, .string q.res.1, .string ByteArray.empty, .string ByteArray.empty, .bool true, .slice none 0 0] rfl zan rfl 52 #[.int .i64 0, .string ByteArray.empty, .string ByteArray.empty, .string ByteArray.empty, .bool false, .slice none 0 0] HSz.out (by simp) (by simp [Value.oneCell']) [.int .i64 K, .string q.res.1, .string ByteArray.empty, .string ByteArray.empty, .bool true, .slice none 0 0] (by first | rfl | simp) ?_; intro w5 hp5 hg5; have HS5 := q_ hp5; have HP5 := q_ ((hg5.block _ (zaf HP4.out) (by have := HGl.out; intro e; injection e with e; omega)).trans HP4.out); have HQ5 := q_ ((hg5.block _ (zaf HQ4.out) (by have := HGl.out; have := Hlt.out; intro e; injection e with e; omega)).trans HQ4.out); have HX5 := q_ (zak HX4.out hg5 (fun b e => by have := HGl.out; have := HX2.out.size; injection e with e; omega))) | (with_reducible refine zae ?_; refine zaa rfl 52 _ rfl g 0 rfl za7 zan (cs := [.int .i64 K, .string q.res.1, .string ByteArray.empty, .string ByteArray.empty, .bool true, .slice none 0 0]) rfl (zad HS5.out) ?_) | ((with_reducible refine za6 ?_); refine zar rfl 52 _ _ rfl w2.heap.size 14 rfl [.int .i64 K, .string q.res.1, .string ByteArray.empty, .string ByteArray.empty, .bool true, .slice none 0 0] rfl zan rfl 62 #[.string ⟨#[116]⟩, .bool true, .int .i64 0, .string ByteArray.empty, .string ByteArray.empty, .string ByteArray.empty, .bool false, .slice none 0 0, .int .i64 0, .string ByteArray.empty, .string ByteArray.empty, .string ByteArray.empty, .bool false, .slice none 0 0, .int .i64 0, .string ByteArray.empty, .string ByteArray.empty, .string ByteArray.empty, .bool false, .slice none 0 0, .slice none 0 0] HP5.out (by simp) (by simp [Value.oneCell']) [.string ⟨#[116]⟩, .bool true, .int .i64 0, .string ByteArray.empty, .string ByteArray.empty, .string ByteArray.empty, .bool false, .slice none 0 0, .int .i64 0, .string ByteArray.empty, .string ByteArray.empty, .string ByteArray.empty, .bool false, .slice none 0 0, .int .i64 K, .string q.res.1, .string ByteArray.empty, .string ByteArray.empty, .bool true, .slice none 0 0, .slice none 0 0] rfl ?_; intro w6 hp6 hg6; have HP6 := q_ hp6; have HQ6 := q_ ((hg6.block _ (zaf HQ5.out) (by have := Hlt.out; intro e; injection e with e; omega)).trans HQ5.out); have HX6 := q_ (zak HX5.out hg6 (fun b e => by have := HX2.out.size; injection e with e; omega))) | (with_reducible refine zae ?_; refine zaa rfl 62 _ rfl w2.heap.size 0 rfl zbk zaz (cs := L) HLn.out (by rw [HLe.out]; exact zad HP6.out) ?_) | (with_reducible refine zae ?_; refine zaa rfl 34 _ rfl W.heap.size 0 rfl Tryz.aggQ zb5 (cs := [.string q.pr.1, .string q.pr.2, .string q.act.1, .string q.act.2, .string q.res.1, .string q.res.2, .int .i64 vk, .bool vb, .int .i64 vn, .string vs, .string vt, .string vu, .slice vA vl vc, .slice vB vm vd]) rfl (zad HQ6.out) ?_))
 clear hp5 hg5 hp6 hg6 HX5 HP5 HQ5 HS5 HSz HX4 HP4 HQ4
 have hT := takes0_ok ⟨#[116]⟩ true scpZ scpZ (Scp.mk K q.res.1 (ByteArray.empty, ByteArray.empty) true []) q w6 [.int .i64 0, .string ByteArray.empty, .string ByteArray.empty, .string ByteArray.empty, .bool false, .slice none 0 0] [.int .i64 0, .string ByteArray.empty, .string ByteArray.empty, .string ByteArray.empty, .bool false, .slice none 0 0] [.int .i64 K, .string q.res.1, .string ByteArray.empty, .string ByteArray.empty, .bool true, .slice none 0 0] [.string q.pr.1, .string q.pr.2, .string q.act.1, .string q.act.2, .string q.res.1, .string q.res.2, .int .i64 vk, .bool vb, .int .i64 vn, .string vs, .string vt, .string vu, .slice vA vl vc, .slice vB vm vd] (zba _ _) (zba _ _) (⟨_, rfl, by have := HK.out; show I64 K; unfold I64; omega, HRes.out, ⟨zay, zay⟩, Rep.RowsAt.nil _ _⟩) (HQi.out.ext HX6.out)
 have hres : zbb scpZ scpZ (Scp.mk K q.res.1 (ByteArray.empty, ByteArray.empty) true []) q = (false, 32) := by
  unfold zbb
  rcases HK.out with rfl | rfl | rfl <;> simp [Scp.holds, scpZ]
 rw [hres] at hT
 have hT : Calls Tryz.prog 24 #[.agg L.toArray, .agg ([.string q.pr.1, .string q.pr.2, .string q.act.1, .string q.act.2, .string q.res.1, .string q.res.2, .int .i64 vk, .bool vb, .int .i64 vn, .string vs, .string vt, .string vu, .slice vA vl vc, .slice vB vm vd] : List Value).toArray, .pointer none] w6 (zai (false, 32) w6) := by rw [HLe.out]; exact hT
 have HT := q_ hT
 have htold : (Pol.mk ⟨#[116]⟩ true scpZ scpZ (Scp.mk K q.res.1 (ByteArray.empty, ByteArray.empty) true [])).told q = 3 := by unfold Pol.told Pol.takes; rw [hres]; rfl
 have hpat : ∀ X, Ext w6 X → (Pol.mk ⟨#[116]⟩ true scpZ scpZ (Scp.mk K q.res.1 (ByteArray.empty, ByteArray.empty) true [])).At X L := fun X k => by rw [HLe.out]; exact ⟨_, _, _, rfl, zba _ _, zba _ _, ⟨_, rfl, by have := HK.out; show I64 K; unfold I64; omega, HRes.out, ⟨zay, zay⟩, Rep.RowsAt.nil _ _⟩⟩
 have HPa := q_ hpat
 have HTo := q_ htold
 clear hT hres htold hpat
 refine HT.out.mono ?_
 as_aux_lemma =>
 rintro r8 w8 ⟨rfl, hx8⟩
 have HX8 := q_ (HX6.out.trans hx8)
 have HP8 := q_ ((hx8.block _ (zaf HP6.out)).trans HP6.out)
 have HQ8 := q_ (keep_in (o := .cells (L ++ ([.string ⟨#[97]⟩, .bool true, .int .i64 0, .string ByteArray.empty, .string ByteArray.empty, .string ByteArray.empty, .bool false, .slice none 0 0, .int .i64 0, .string ByteArray.empty, .string ByteArray.empty, .string ByteArray.empty, .bool false, .slice none 0 0, .int .i64 0, .string ByteArray.empty, .string ByteArray.empty, .string ByteArray.empty, .bool false, .slice none 0 0, .slice none 0 0] : List Value)).toArray 62) HQ6.out hx8)
 have d := dec_two (Pol.mk ⟨#[116]⟩ true scpZ scpZ (Scp.mk K q.res.1 (ByteArray.empty, ByteArray.empty) true [])) (polA 97 true) L [.string ⟨#[97]⟩, .bool true, .int .i64 0, .string ByteArray.empty, .string ByteArray.empty, .string ByteArray.empty, .bool false, .slice none 0 0, .int .i64 0, .string ByteArray.empty, .string ByteArray.empty, .string ByteArray.empty, .bool false, .slice none 0 0, .int .i64 0, .string ByteArray.empty, .string ByteArray.empty, .string ByteArray.empty, .bool false, .slice none 0 0, .slice none 0 0] q w8 [.string q.pr.1, .string q.pr.2, .string q.act.1, .string q.act.2, .string q.res.1, .string q.res.2, .int .i64 vk, .bool vb, .int .i64 vn, .string vs, .string vt, .string vu, .slice vA vl vc, .slice vB vm vd] true [⟨#[97]⟩] [⟨#[116]⟩] [⟨#[97]⟩] [] (by show (⟨#[116]⟩ : ByteArray) ≠ ⟨#[97]⟩; decide) (fit1 _) (fit1 _) (fun X k => HPa.out X (hx8.trans k)) (fun X _ => polA_at _ _ _) HLn.out (HQi.out.ext HX8.out) (by rw [za4, zbo, HTo.out] <;> rfl) (by rw [za4, zbo, HTo.out] <;> rfl) (by rw [za4, zbo, HTo.out] <;> rfl) rfl rfl (by simp) (by simp) (by simp)
 have HD := q_ d
 have Hy := q_ ((Ext.refl w8).alloc (.cells (L ++ ([.string ⟨#[97]⟩, .bool true, .int .i64 0, .string ByteArray.empty, .string ByteArray.empty, .string ByteArray.empty, .bool false, .slice none 0 0, .int .i64 0, .string ByteArray.empty, .string ByteArray.empty, .string ByteArray.empty, .bool false, .slice none 0 0, .int .i64 0, .string ByteArray.empty, .string ByteArray.empty, .string ByteArray.empty, .bool false, .slice none 0 0, .slice none 0 0] : List Value)).toArray 62))
 clear d hx8 HT HX6 HP6 HQ6 HPa HTo
 go_wp2_with (first | (with_reducible refine zae ?_; refine zaa rfl 62 _ rfl w2.heap.size 0 rfl zbk zaz (cs := L) HLn.out (by rw [HLe.out]; exact zad HP8.out) ?_) | ((with_reducible refine at_bslice ?_); refine wpList_pols rfl _ _ rfl L [.string ⟨#[97]⟩, .bool true, .int .i64 0, .string ByteArray.empty, .string ByteArray.empty, .string ByteArray.empty, .bool false, .slice none 0 0, .int .i64 0, .string ByteArray.empty, .string ByteArray.empty, .string ByteArray.empty, .bool false, .slice none 0 0, .int .i64 0, .string ByteArray.empty, .string ByteArray.empty, .string ByteArray.empty, .bool false, .slice none 0 0, .slice none 0 0] rfl rfl HLn.out rfl ?_; intro wa hwa; have HWa := q_ hwa; have HQa : Hid (wa.heap[W.heap.size]? = some (.cells #[.string q.pr.1, .string q.pr.2, .string q.act.1, .string q.act.2, .string q.res.1, .string q.res.2, .int .i64 vk, .bool vb, .int .i64 vn, .string vs, .string vt, .string vu, .slice vA vl vc, .slice vB vm vd] 34 (0, 0))) := q_ (by rw [hwa]; exact HQ8.out); clear hwa) | (with_reducible refine zae ?_; refine zaa rfl 34 _ rfl W.heap.size 0 rfl Tryz.aggQ zb5 (cs := [.string q.pr.1, .string q.pr.2, .string q.act.1, .string q.act.2, .string q.res.1, .string q.res.2, .int .i64 vk, .bool vb, .int .i64 vn, .string vs, .string vt, .string vu, .slice vA vl vc, .slice vB vm vd]) rfl (zad HQa.out) ?_))
 have HDa : Calls Tryz.prog 25 #[.slice (some ⟨w8.heap.size, 0, none⟩) 2 2, .agg ([.string q.pr.1, .string q.pr.2, .string q.act.1, .string q.act.2, .string q.res.1, .string q.res.2, .int .i64 vk, .bool vb, .int .i64 vn, .string vs, .string vt, .string vu, .slice vA vl vc, .slice vB vm vd] : List Value).toArray, .pointer none] wa (DecIs true [⟨#[97]⟩] [⟨#[116]⟩] 1 1 wa) := by rw [HWa.out]; exact HD.out
 have HXa := q_ (show Ext w8 wa by rw [HWa.out]; exact Hy.out)
 refine HDa.mono ?_
 as_aux_lemma =>
 rintro r9 w9 ⟨A1, c1, A2, c2, rfl, -, f2, hx9⟩
 obtain ⟨g, rfl, hg⟩ := f2 _ _ rfl
 have HX9 := q_ (((HX8.out.trans HXa.out).trans hx9).alloc (.cells #[.bool true, .slice A1 1 c1, .slice (some ⟨g, 0, none⟩) 1 c2] 66))
 have hb := heap_alloc_new w9 (.cells #[.bool true, .slice A1 1 c1, .slice (some ⟨g, 0, none⟩) 1 c2] 66)
 have k0 : (w9.alloc (.cells #[.bool true, .slice A1 1 c1, .slice (some ⟨g, 0, none⟩) 1 c2] 66)).cell? ⟨w9.heap.size, 0, none⟩ = some (.bool true) := cell_of_row _ _ 0 _ _ _ hb
 have k2 : (w9.alloc (.cells #[.bool true, .slice A1 1 c1, .slice (some ⟨g, 0, none⟩) 1 c2] 66)).cell? ⟨w9.heap.size, 2, none⟩ = some (.slice (some ⟨g, 0, none⟩) 1 c2) := cell_of_row _ _ 2 _ _ _ hb
 have kg : (w9.alloc (.cells #[.bool true, .slice A1 1 c1, .slice (some ⟨g, 0, none⟩) 1 c2] 66)).cell? ⟨g, 0, none⟩ = some (.string ⟨#[116]⟩) := ((Ext.refl w9).alloc (.cells #[.bool true, .slice A1 1 c1, .slice (some ⟨g, 0, none⟩) 1 c2] 66)).cell hg
 clear hx9 HD HDa hb HX8 HP8 HQ8 Hy HQa HWa HXa hg f2
 go_wp2_with fail
 go_ret
 exact ⟨rfl, HX9.out⟩
theorem dt_ahead (which : Int) (m j : Nat) (K : Int) (q : Req) (W : World) (qc : List Value) (hq : InR W q qc) (hf : q.pr.1.size < 9223372036854775807) (hb : bits .and .i64 which 255 = (m : Int)) (hj : (m : Int).tmod 3 = (j : Int)) (hjK : (j = 0 ∧ K = 1) ∨ (j = 1 ∧ K = 2) ∨ (j = 2 ∧ K = 4)) :
  Calls Tryz.prog 8 #[.bool true, .int .i64 which, .agg qc.toArray] W fun e W' => e = .returned (.bool true) ∧ Ext W W' := by
 have HQi := q_ hq
 have HFit := q_ hf
 have HjK := q_ hjK
 have HK := q_ (show K = 1 ∨ K = 2 ∨ K = 4 by omega)
 have hj3 : j < 3 := by omega
 obtain ⟨_, hqe, ⟨_, _, hfr⟩, _⟩ := id hq
 clear hqe
 have HRes := q_ hfr.1
 obtain ⟨vk, vb, vn, vs, vt, vu, vA, vl, vc, vB, vm, vd, rfl, hv⟩ := hq.shape
 have HV := q_ hv
 have HX0 := q_ ((Ext.refl W).alloc (.cells #[.string q.pr.1, .string q.pr.2, .string q.act.1, .string q.act.2, .string q.res.1, .string q.res.2, .int .i64 vk, .bool vb, .int .i64 vn, .string vs, .string vt, .string vu, .slice vA vl vc, .slice vB vm vd] 34))
 have HQ0 := q_ (heap_alloc_new W (.cells #[.string q.pr.1, .string q.pr.2, .string q.act.1, .string q.act.2, .string q.res.1, .string q.res.2, .int .i64 vk, .bool vb, .int .i64 vn, .string vs, .string vt, .string vu, .slice vA vl vc, .slice vB vm vd] 34))
 clear hq hf hjK hfr hv
 go_enter Tryz.func8, Tryz.ntmps8
 go_wp2_with fail
 refine (awake16_ok _).mono ?_
 rintro r1 w1 ⟨rfl, hx1⟩
 have HX1 := q_ (HX0.out.trans hx1)
 have HQ1 := q_ ((hx1.block _ (zaf HQ0.out)).trans HQ0.out)
 have HCm : Hid (CellsAt w1 W.heap.size 6 [.int .i64 vk, .bool vb, .int .i64 vn, .string vs, .string vt, .string vu, .slice vA vl vc, .slice vB vm vd]) := q_ (zag (pre := [.string q.pr.1, .string q.pr.2, .string q.act.1, .string q.act.2, .string q.res.1, .string q.res.2]) (cs := [.int .i64 vk, .bool vb, .int .i64 vn, .string vs, .string vt, .string vu, .slice vA vl vc, .slice vB vm vd]) (r := []) HQ1.out)
 have HS := q_ (slight_ok16 _ q.ctx 0 (fun b => b < w1.heap.size) w1 [.int .i64 vk, .bool vb, .int .i64 vn, .string vs, .string vt, .string vu, .slice vA vl vc, .slice vB vm vd] (Nat.le_refl _) (by omega) (fun b h => h) ((HV.out.alike (Alike.of_ext HX1.out fun _ h => h)).mono fun b hb => Nat.lt_of_lt_of_le hb HX1.out.size))
 clear hx1 HX0 HQ0
 go_wp2_with ((with_reducible refine zae ?_; refine zaa rfl 27 _ rfl W.heap.size 6 rfl zb4 zbp (cs := [.int .i64 vk, .bool vb, .int .i64 vn, .string vs, .string vt, .string vu, .slice vA vl vc, .slice vB vm vd]) rfl HCm.out ?_))
 refine HS.out.mono ?_
 rintro r2 w2 ⟨r, -, rfl, hx2⟩
 have HX2 := q_ (HX1.out.trans hx2)
 have HQ2 := q_ ((hx2.block _ (zaf HQ1.out)).trans HQ1.out)
 clear hx2 HX1 HQ1 HCm HS
 cases r with
 | false =>
  as_aux_lemma =>
  go_wp2_with fail
  go_ret
  exact ⟨rfl, HX2.out⟩
 | true =>
 as_aux_lemma =>
 have Hlt := q_ (show W.heap.size < w2.heap.size from zaf HQ2.out)
 obtain ⟨L, hL⟩ : ∃ L : List Value, L = [.string ⟨#[116]⟩, .bool true, .int .i64 3, .string (q.pr.1 ++ ⟨#[120]⟩), .string ByteArray.empty, .string ByteArray.empty, .bool false, .slice none 0 0, .int .i64 0, .string ByteArray.empty, .string ByteArray.empty, .string ByteArray.empty, .bool false, .slice none 0 0, .int .i64 K, .string q.res.1, .string ByteArray.empty, .string ByteArray.empty, .bool true, .slice none 0 0, .slice none 0 0] := ⟨_, rfl⟩
 have HLe := q_ hL
 have HLn : Hid (L.length = 21) := q_ (by rw [hL]; rfl)
 clear hL
 have Hj3 := q_ hj3
 have Hb := q_ hb
 have Hj := q_ hj
 clear hb hj hj3
 go_wp2_with (((with_reducible refine za6 ?_); refine zar rfl 62 _ _ rfl w2.heap.size 0 rfl [.string ⟨#[116]⟩, .bool true, .int .i64 0, .string ByteArray.empty, .string ByteArray.empty, .string ByteArray.empty, .bool false, .slice none 0 0, .int .i64 0, .string ByteArray.empty, .string ByteArray.empty, .string ByteArray.empty, .bool false, .slice none 0 0, .int .i64 0, .string ByteArray.empty, .string ByteArray.empty, .string ByteArray.empty, .bool false, .slice none 0 0, .slice none 0 0] rfl zaz rfl 62 #[.string ByteArray.empty, .bool false, .int .i64 0, .string ByteArray.empty, .string ByteArray.empty, .string ByteArray.empty, .bool false, .slice none 0 0, .int .i64 0, .string ByteArray.empty, .string ByteArray.empty, .string ByteArray.empty, .bool false, .slice none 0 0, .int .i64 0, .string ByteArray.empty, .string ByteArray.empty, .string ByteArray.empty, .bool false, .slice none 0 0, .slice none 0 0] (heap_alloc_new w2 _) (by simp) (by simp [Value.oneCell']) [.string ⟨#[116]⟩, .bool true, .int .i64 0, .string ByteArray.empty, .string ByteArray.empty, .string ByteArray.empty, .bool false, .slice none 0 0, .int .i64 0, .string ByteArray.empty, .string ByteArray.empty, .string ByteArray.empty, .bool false, .slice none 0 0, .int .i64 0, .string ByteArray.empty, .string ByteArray.empty, .string ByteArray.empty, .bool false, .slice none 0 0, .slice none 0 0] (by first | rfl | simp) ?_; intro w3 hp3 hg3))
 have HP3 := q_ hp3
 have HX3 := q_ (zak (HX2.out.alloc (.cells #[.string ByteArray.empty, .bool false, .int .i64 0, .string ByteArray.empty, .string ByteArray.empty, .string ByteArray.empty, .bool false, .slice none 0 0, .int .i64 0, .string ByteArray.empty, .string ByteArray.empty, .string ByteArray.empty, .bool false, .slice none 0 0, .int .i64 0, .string ByteArray.empty, .string ByteArray.empty, .string ByteArray.empty, .bool false, .slice none 0 0, .slice none 0 0] 62)) hg3 (fun b e => by have := HX2.out.size; injection e with e; omega))
 have HQ3 := q_ ((hg3.block _ (zaf (za0 HQ2.out)) (by have := Hlt.out; intro e; injection e with e; omega)).trans (za0 HQ2.out))
 clear hp3 hg3
 refine region_known 11 (ScK W.heap.size which m j K q.res.1 w3.heap.size) (by kernel_rfl) (by kernel_rfl) (by kernel_rfl) (fun i v W W' => ScK.ext i v W W') (fun i o jj b hi ho hg => ?_) (fun i o hi ho W5 c hx hold hf Q' K' hK => ?_) ?_
 ·as_aux_lemma =>
  rcases (by omega : i = 0 ∨ i = 1 ∨ i = 2 ∨ i = 3 ∨ i = 4 ∨ i = 5 ∨ i = 6 ∨ i = 7 ∨ i = 8 ∨ i = 9 ∨ i = 10) with rfl | rfl | rfl | rfl | rfl | rfl | rfl | rfl | rfl | rfl | rfl <;> obtain rfl := Option.some.inj ho <;> cases hg
 ·as_aux_lemma =>
  rcases (by omega : i = 0 ∨ i = 1 ∨ i = 2 ∨ i = 3 ∨ i = 4 ∨ i = 5 ∨ i = 6 ∨ i = 7 ∨ i = 8 ∨ i = 9 ∨ i = 10) with rfl | rfl | rfl | rfl | rfl | rfl | rfl | rfl | rfl | rfl | rfl <;> obtain rfl := Option.some.inj ho
  ·exact zbl (exec_buildN16 _ _ _ rfl (by simp only [List.map_toArray, List.map_cons, List.map_nil]; rfl) (Tryz.buildI3 W5)) ((Ext.refl W5).alloc _) ⟨_, rfl, heap_alloc_new W5 _⟩ hK
  ·exact zal (exec_move rfl (hold 1 (by kernel_rfl))) hK
  ·exact zal (exec_binX rfl (hf 1 24 (by omega) (by kernel_rfl) (by kernel_rfl)) rfl (Tryz.and255 _ _ Hb.out _ _ W5)) hK
  ·exact zal (exec_binX rfl (hf 2 25 (by omega) (by kernel_rfl) (by kernel_rfl)) rfl (Tryz.rem3 _ _ Hj.out _ _ W5)) hK
  ·obtain ⟨A, e1, e2⟩ : ∃ A, c.eval (.tmp 23) = .slice (some ⟨A, 0, none⟩) 3 3 ∧ W5.heap[A]? = some (.cells #[.int .i64 1, .int .i64 2, .int .i64 4] 3 (0, 0)) := (hf 0 23 (by omega) (by kernel_rfl) (by kernel_rfl))
   exact zbl (exec_index rfl e1 (hf 3 26 (by omega) (by kernel_rfl) (by kernel_rfl)) Tryz.undI Tryz.sizI Hj3.out) (Ext.refl W5) ⟨A, rfl, e2⟩ hK
  ·obtain ⟨A, e1, e2⟩ : ∃ A, c.eval (.tmp 27) = .pointer (some ⟨A, 0 + j * 1, none⟩) ∧ W5.heap[A]? = some (.cells #[.int .i64 1, .int .i64 2, .int .i64 4] 3 (0, 0)) := (hf 4 27 (by omega) (by kernel_rfl) (by kernel_rfl))
   refine zal (zbj 3 _ rfl A (0 + j * 1) e1 Tryz.aggI ?_) hK
   rw [cell_of_row _ _ _ _ _ _ e2]
   rcases HjK.out with ⟨rfl, rfl⟩ | ⟨rfl, rfl⟩ | ⟨rfl, rfl⟩ <;> rfl
  ·exact zal (exec_field 34 _ 2 rfl (hold 5 (by kernel_rfl)) (Tryz.fieldQr _)) hK
  ·exact zal (exec_field 23 _ 0 rfl (hf 6 29 (by omega) (by kernel_rfl) (by kernel_rfl)) (Tryz.fieldQt _)) hK
  ·exact zal (zbj 9 _ rfl W.heap.size 4 (hf 7 30 (by omega) (by kernel_rfl) (by kernel_rfl)) Tryz.aggStr (cell_of_row _ _ 4 _ _ _ ((hx.block _ (zaf HQ3.out)).trans HQ3.out))) hK
  ·have k1 : c.eval (.tmp 28) = .int .i64 K := (hf 5 28 (by omega) (by kernel_rfl) (by kernel_rfl))
   have k2 : c.eval (.tmp 31) = .string q.res.1 := (hf 8 31 (by omega) (by kernel_rfl) (by kernel_rfl))
   exact zal (exec_bldX rfl (by simp only [List.map_toArray, List.map_cons, List.map_nil, k1, k2]; rfl) (Tryz.bldSc K q.res.1 W5)) hK
  ·exact zbl (exec_alloc rfl (Tryz.allocSc W5)) ((Ext.refl W5).alloc _) ⟨_, rfl, hx.size, heap_alloc_new W5 _⟩ hK
 as_aux_lemma =>
 intro xs w4 hlen hx4 hV
 obtain ⟨a0, a1, a2, a3, a4, a5, a6, a7, a8, a9, a10, rfl⟩ := list11k hlen
 have e9 : a9 = .agg #[.int .i64 K, .string q.res.1, .string ByteArray.empty, .string ByteArray.empty, .bool true, .slice none 0 0] := hV 9 (by omega)
 obtain ⟨g, e10, hg1, hg2⟩ : ∃ g, a10 = .pointer (some ⟨g, 0, none⟩) ∧ w3.heap.size ≤ g ∧ w4.heap[g]? = some (.cells #[.int .i64 0, .string ByteArray.empty, .string ByteArray.empty, .string ByteArray.empty, .bool false, .slice none 0 0] 52 (0, 0)) := hV 10 (by omega)
 subst e9 e10
 have hgl : w2.heap.size < g := by
  have := zaf HP3.out
  omega
 have HGl := q_ hgl
 have HSz := q_ hg2
 have HX4 := q_ (HX3.out.trans hx4)
 have HP4 := q_ ((hx4.block _ (zaf HP3.out)).trans HP3.out)
 have HQ4 := q_ ((hx4.block _ (zaf HQ3.out)).trans HQ3.out)
 clear hV hlen hx4 hg1 hg2 hgl HX3 HP3 HQ3 Hj3 Hb Hj
 simp only [List.take, List.drop, zao, Act.put, List.setIfInBounds_toArray, List.set_cons_zero, List.set_cons_succ]
 have hcat : ∀ w, (Op.stringOp .add q.pr.1 ⟨#[120]⟩).run Tryz.prog w = .ok (.string (q.pr.1 ++ ⟨#[120]⟩)) w := fun w => run_string_add_sum _ _ _ (by have := HFit.out; show _ + 1 ≤ _; omega)
 go_wp2_with (first | ((with_reducible refine za6 ?_); refine zar rfl 52 _ _ rfl g 0 rfl [.int .i64 K, .string q.res.1, .string ByteArray.empty, .string ByteArray.empty, .bool true, .slice none 0 0] rfl zan rfl 52 #[.int .i64 0, .string ByteArray.empty, .string ByteArray.empty, .string ByteArray.empty, .bool false, .slice none 0 0] HSz.out (by simp) (by simp [Value.oneCell']) [.int .i64 K, .string q.res.1, .string ByteArray.empty, .string ByteArray.empty, .bool true, .slice none 0 0] (by first | rfl | simp) ?_; intro w5 hp5 hg5; have HS5 := q_ hp5; have HP5 := q_ ((hg5.block _ (zaf HP4.out) (by have := HGl.out; intro e; injection e with e; omega)).trans HP4.out); have HQ5 := q_ ((hg5.block _ (zaf HQ4.out) (by have := HGl.out; have := Hlt.out; intro e; injection e with e; omega)).trans HQ4.out); have HX5 := q_ (zak HX4.out hg5 (fun b e => by have := HGl.out; have := HX2.out.size; injection e with e; omega))) | (with_reducible refine zae ?_; refine zaa rfl 52 _ rfl g 0 rfl za7 zan (cs := [.int .i64 K, .string q.res.1, .string ByteArray.empty, .string ByteArray.empty, .bool true, .slice none 0 0]) rfl (zad HS5.out) ?_) | ((with_reducible refine za6 ?_); refine zar rfl 52 _ _ rfl w2.heap.size 14 rfl [.int .i64 K, .string q.res.1, .string ByteArray.empty, .string ByteArray.empty, .bool true, .slice none 0 0] rfl zan rfl 62 #[.string ⟨#[116]⟩, .bool true, .int .i64 0, .string ByteArray.empty, .string ByteArray.empty, .string ByteArray.empty, .bool false, .slice none 0 0, .int .i64 0, .string ByteArray.empty, .string ByteArray.empty, .string ByteArray.empty, .bool false, .slice none 0 0, .int .i64 0, .string ByteArray.empty, .string ByteArray.empty, .string ByteArray.empty, .bool false, .slice none 0 0, .slice none 0 0] HP5.out (by simp) (by simp [Value.oneCell']) [.string ⟨#[116]⟩, .bool true, .int .i64 0, .string ByteArray.empty, .string ByteArray.empty, .string ByteArray.empty, .bool false, .slice none 0 0, .int .i64 0, .string ByteArray.empty, .string ByteArray.empty, .string ByteArray.empty, .bool false, .slice none 0 0, .int .i64 K, .string q.res.1, .string ByteArray.empty, .string ByteArray.empty, .bool true, .slice none 0 0, .slice none 0 0] rfl ?_; intro w6 hp6 hg6; have HP6 := q_ hp6; have HQ6 := q_ ((hg6.block _ (zaf HQ5.out) (by have := Hlt.out; intro e; injection e with e; omega)).trans HQ5.out); have HX6 := q_ (zak HX5.out hg6 (fun b e => by have := HX2.out.size; injection e with e; omega)); have c0 : w6.cell? ⟨W.heap.size, 0, none⟩ = some (.string q.pr.1) := cell_of_row _ _ 0 _ _ _ HQ6.out) | ((with_reducible refine za6 ?_); refine zar rfl 52 _ _ rfl w2.heap.size 2 rfl [.int .i64 3, .string (q.pr.1 ++ ⟨#[120]⟩), .string ByteArray.empty, .string ByteArray.empty, .bool false, .slice none 0 0] rfl zan rfl 62 #[.string ⟨#[116]⟩, .bool true, .int .i64 0, .string ByteArray.empty, .string ByteArray.empty, .string ByteArray.empty, .bool false, .slice none 0 0, .int .i64 0, .string ByteArray.empty, .string ByteArray.empty, .string ByteArray.empty, .bool false, .slice none 0 0, .int .i64 K, .string q.res.1, .string ByteArray.empty, .string ByteArray.empty, .bool true, .slice none 0 0, .slice none 0 0] HP6.out (by simp) (by simp [Value.oneCell']) [.string ⟨#[116]⟩, .bool true, .int .i64 3, .string (q.pr.1 ++ ⟨#[120]⟩), .string ByteArray.empty, .string ByteArray.empty, .bool false, .slice none 0 0, .int .i64 0, .string ByteArray.empty, .string ByteArray.empty, .string ByteArray.empty, .bool false, .slice none 0 0, .int .i64 K, .string q.res.1, .string ByteArray.empty, .string ByteArray.empty, .bool true, .slice none 0 0, .slice none 0 0] rfl ?_; intro w7 hp7 hg7; have HP7 := q_ hp7; have HQ7 := q_ ((hg7.block _ (zaf HQ6.out) (by have := Hlt.out; intro e; injection e with e; omega)).trans HQ6.out); have HX7 := q_ (zak HX6.out hg7 (fun b e => by have := HX2.out.size; injection e with e; omega))) | (with_reducible refine zae ?_; refine zaa rfl 62 _ rfl w2.heap.size 0 rfl zbk zaz (cs := L) HLn.out (by rw [HLe.out]; exact zad HP7.out) ?_) | (with_reducible refine zae ?_; refine zaa rfl 34 _ rfl W.heap.size 0 rfl Tryz.aggQ zb5 (cs := [.string q.pr.1, .string q.pr.2, .string q.act.1, .string q.act.2, .string q.res.1, .string q.res.2, .int .i64 vk, .bool vb, .int .i64 vn, .string vs, .string vt, .string vu, .slice vA vl vc, .slice vB vm vd]) rfl (zad HQ7.out) ?_))
 clear hp5 hg5 hp6 hg6 HX5 HP5 HQ5 HS5 HSz HX4 HP4 HQ4 hp7 hg7 hcat c0 HP6 HQ6 HX6
 have hT := takes0_ok ⟨#[116]⟩ true (Scp.mk 3 (q.pr.1 ++ ⟨#[120]⟩) (ByteArray.empty, ByteArray.empty) false []) scpZ (Scp.mk K q.res.1 (ByteArray.empty, ByteArray.empty) true []) q w7 [.int .i64 3, .string (q.pr.1 ++ ⟨#[120]⟩), .string ByteArray.empty, .string ByteArray.empty, .bool false, .slice none 0 0] [.int .i64 0, .string ByteArray.empty, .string ByteArray.empty, .string ByteArray.empty, .bool false, .slice none 0 0] [.int .i64 K, .string q.res.1, .string ByteArray.empty, .string ByteArray.empty, .bool true, .slice none 0 0] [.string q.pr.1, .string q.pr.2, .string q.act.1, .string q.act.2, .string q.res.1, .string q.res.2, .int .i64 vk, .bool vb, .int .i64 vn, .string vs, .string vt, .string vu, .slice vA vl vc, .slice vB vm vd] (⟨_, rfl, by show I64 3; unfold I64; omega, by rw [ByteArray.size_append]; rw [zat]; have := HFit.out; show _ + 1 ≤ _; omega, ⟨zay, zay⟩, Rep.RowsAt.nil _ _⟩) (zba _ _) (⟨_, rfl, by have := HK.out; show I64 K; unfold I64; omega, HRes.out, ⟨zay, zay⟩, Rep.RowsAt.nil _ _⟩) (HQi.out.ext HX7.out)
 have hres : zbb (Scp.mk 3 (q.pr.1 ++ ⟨#[120]⟩) (ByteArray.empty, ByteArray.empty) false []) scpZ (Scp.mk K q.res.1 (ByteArray.empty, ByteArray.empty) true []) q = (false, 0) := by
  unfold zbb
  have hne : q.pr.1 ≠ q.pr.1 ++ ⟨#[120]⟩ := fun h => by have := congrArg ByteArray.size h; rw [ByteArray.size_append] at this; have h1 : (⟨#[120]⟩ : ByteArray).size = 1 := rfl; omega
  simp [Scp.holds, hne]
 rw [hres] at hT
 have hT : Calls Tryz.prog 24 #[.agg L.toArray, .agg ([.string q.pr.1, .string q.pr.2, .string q.act.1, .string q.act.2, .string q.res.1, .string q.res.2, .int .i64 vk, .bool vb, .int .i64 vn, .string vs, .string vt, .string vu, .slice vA vl vc, .slice vB vm vd] : List Value).toArray, .pointer none] w7 (zai (false, 0) w7) := by rw [HLe.out]; exact hT
 have HT := q_ hT
 have htold : (Pol.mk ⟨#[116]⟩ true (Scp.mk 3 (q.pr.1 ++ ⟨#[120]⟩) (ByteArray.empty, ByteArray.empty) false []) scpZ (Scp.mk K q.res.1 (ByteArray.empty, ByteArray.empty) true [])).told q = 0 := by unfold Pol.told Pol.takes; rw [hres]; rfl
 have hpat : ∀ X, Ext w7 X → (Pol.mk ⟨#[116]⟩ true (Scp.mk 3 (q.pr.1 ++ ⟨#[120]⟩) (ByteArray.empty, ByteArray.empty) false []) scpZ (Scp.mk K q.res.1 (ByteArray.empty, ByteArray.empty) true [])).At X L := fun X k => by rw [HLe.out]; exact ⟨_, _, _, rfl, ⟨_, rfl, by show I64 3; unfold I64; omega, by rw [ByteArray.size_append]; rw [zat]; have := HFit.out; show _ + 1 ≤ _; omega, ⟨zay, zay⟩, Rep.RowsAt.nil _ _⟩, zba _ _, ⟨_, rfl, by have := HK.out; show I64 K; unfold I64; omega, HRes.out, ⟨zay, zay⟩, Rep.RowsAt.nil _ _⟩⟩
 have HPa := q_ hpat
 have HTo := q_ htold
 clear hT hres htold hpat
 refine HT.out.mono ?_
 as_aux_lemma =>
 rintro r8 w8 ⟨rfl, hx8⟩
 have HX8 := q_ (HX7.out.trans hx8)
 have HP8 := q_ ((hx8.block _ (zaf HP7.out)).trans HP7.out)
 have HQ8 := q_ (keep_in (o := .cells (L ++ ([.string ⟨#[97]⟩, .bool true, .int .i64 0, .string ByteArray.empty, .string ByteArray.empty, .string ByteArray.empty, .bool false, .slice none 0 0, .int .i64 0, .string ByteArray.empty, .string ByteArray.empty, .string ByteArray.empty, .bool false, .slice none 0 0, .int .i64 0, .string ByteArray.empty, .string ByteArray.empty, .string ByteArray.empty, .bool false, .slice none 0 0, .slice none 0 0] : List Value)).toArray 62) HQ7.out hx8)
 have d := dec_two (Pol.mk ⟨#[116]⟩ true (Scp.mk 3 (q.pr.1 ++ ⟨#[120]⟩) (ByteArray.empty, ByteArray.empty) false []) scpZ (Scp.mk K q.res.1 (ByteArray.empty, ByteArray.empty) true [])) (polA 97 true) L [.string ⟨#[97]⟩, .bool true, .int .i64 0, .string ByteArray.empty, .string ByteArray.empty, .string ByteArray.empty, .bool false, .slice none 0 0, .int .i64 0, .string ByteArray.empty, .string ByteArray.empty, .string ByteArray.empty, .bool false, .slice none 0 0, .int .i64 0, .string ByteArray.empty, .string ByteArray.empty, .string ByteArray.empty, .bool false, .slice none 0 0, .slice none 0 0] q w8 [.string q.pr.1, .string q.pr.2, .string q.act.1, .string q.act.2, .string q.res.1, .string q.res.2, .int .i64 vk, .bool vb, .int .i64 vn, .string vs, .string vt, .string vu, .slice vA vl vc, .slice vB vm vd] true [⟨#[97]⟩] [] [⟨#[97]⟩] [] (by show (⟨#[116]⟩ : ByteArray) ≠ ⟨#[97]⟩; decide) (fit1 _) (fit1 _) (fun X k => HPa.out X (hx8.trans k)) (fun X _ => polA_at _ _ _) HLn.out (HQi.out.ext HX8.out) (by rw [za4, zbo, HTo.out] <;> rfl) (by rw [za4, zbo, HTo.out] <;> rfl) (by rw [za4, zbo, HTo.out] <;> rfl) rfl rfl (by simp) (by simp) (by simp)
 have HD := q_ d
 have Hy := q_ ((Ext.refl w8).alloc (.cells (L ++ ([.string ⟨#[97]⟩, .bool true, .int .i64 0, .string ByteArray.empty, .string ByteArray.empty, .string ByteArray.empty, .bool false, .slice none 0 0, .int .i64 0, .string ByteArray.empty, .string ByteArray.empty, .string ByteArray.empty, .bool false, .slice none 0 0, .int .i64 0, .string ByteArray.empty, .string ByteArray.empty, .string ByteArray.empty, .bool false, .slice none 0 0, .slice none 0 0] : List Value)).toArray 62))
 clear d hx8 HT HX7 HP7 HQ7 HPa HTo
 go_wp2_with (first | (with_reducible refine zae ?_; refine zaa rfl 62 _ rfl w2.heap.size 0 rfl zbk zaz (cs := L) HLn.out (by rw [HLe.out]; exact zad HP8.out) ?_) | ((with_reducible refine at_bslice ?_); refine wpList_pols rfl _ _ rfl L [.string ⟨#[97]⟩, .bool true, .int .i64 0, .string ByteArray.empty, .string ByteArray.empty, .string ByteArray.empty, .bool false, .slice none 0 0, .int .i64 0, .string ByteArray.empty, .string ByteArray.empty, .string ByteArray.empty, .bool false, .slice none 0 0, .int .i64 0, .string ByteArray.empty, .string ByteArray.empty, .string ByteArray.empty, .bool false, .slice none 0 0, .slice none 0 0] rfl rfl HLn.out rfl ?_; intro wa hwa; have HWa := q_ hwa; have HQa : Hid (wa.heap[W.heap.size]? = some (.cells #[.string q.pr.1, .string q.pr.2, .string q.act.1, .string q.act.2, .string q.res.1, .string q.res.2, .int .i64 vk, .bool vb, .int .i64 vn, .string vs, .string vt, .string vu, .slice vA vl vc, .slice vB vm vd] 34 (0, 0))) := q_ (by rw [hwa]; exact HQ8.out); clear hwa) | (with_reducible refine zae ?_; refine zaa rfl 34 _ rfl W.heap.size 0 rfl Tryz.aggQ zb5 (cs := [.string q.pr.1, .string q.pr.2, .string q.act.1, .string q.act.2, .string q.res.1, .string q.res.2, .int .i64 vk, .bool vb, .int .i64 vn, .string vs, .string vt, .string vu, .slice vA vl vc, .slice vB vm vd]) rfl (zad HQa.out) ?_))
 have HDa : Calls Tryz.prog 25 #[.slice (some ⟨w8.heap.size, 0, none⟩) 2 2, .agg ([.string q.pr.1, .string q.pr.2, .string q.act.1, .string q.act.2, .string q.res.1, .string q.res.2, .int .i64 vk, .bool vb, .int .i64 vn, .string vs, .string vt, .string vu, .slice vA vl vc, .slice vB vm vd] : List Value).toArray, .pointer none] wa (DecIs true [⟨#[97]⟩] [] 1 0 wa) := by rw [HWa.out]; exact HD.out
 have HXa := q_ (show Ext w8 wa by rw [HWa.out]; exact Hy.out)
 refine HDa.mono ?_
 as_aux_lemma =>
 rintro r9 w9 ⟨A1, c1, A2, c2, rfl, -, -, hx9⟩
 skip
 have HX9 := q_ (((HX8.out.trans HXa.out).trans hx9).alloc (.cells #[.bool true, .slice A1 1 c1, .slice A2 0 c2] 66))
 have hb := heap_alloc_new w9 (.cells #[.bool true, .slice A1 1 c1, .slice A2 0 c2] 66)
 have k0 : (w9.alloc (.cells #[.bool true, .slice A1 1 c1, .slice A2 0 c2] 66)).cell? ⟨w9.heap.size, 0, none⟩ = some (.bool true) := cell_of_row _ _ 0 _ _ _ hb
 have k2 : (w9.alloc (.cells #[.bool true, .slice A1 1 c1, .slice A2 0 c2] 66)).cell? ⟨w9.heap.size, 2, none⟩ = some (.slice A2 0 c2) := cell_of_row _ _ 2 _ _ _ hb
 skip
 clear hx9 HD HDa hb HX8 HP8 HQ8 Hy HQa HWa HXa
 go_wp2_with fail
 go_ret
 exact ⟨rfl, HX9.out⟩
theorem decideTemplates_walk (ahead : Bool) (which : Int) (q : Req) (W : World) (qc : List Value) (hq : InR W q qc) (hf : q.pr.1.size < 9223372036854775807) :
  Calls Tryz.prog 8 #[.bool ahead, .int .i64 which, .agg qc.toArray] W fun e W' => e = .returned (.bool true) ∧ Ext W W' := by
 obtain ⟨m, hm⟩ : ∃ m : Nat, which % 256 = (m : Int) := ⟨(which % 256).toNat, by omega⟩
 have hb : bits .and .i64 which 255 = (m : Int) := by rw [i64_and255]; exact hm
 have hj : (m : Int).tmod 3 = ((m % 3 : Nat) : Int) := rfl
 have hc : ∃ K : Int, (m % 3 = 0 ∧ K = 1) ∨ (m % 3 = 1 ∧ K = 2) ∨ (m % 3 = 2 ∧ K = 4) := by
  rcases (by omega : m % 3 = 0 ∨ m % 3 = 1 ∨ m % 3 = 2) with h | h | h
  ·exact ⟨1, .inl ⟨h, rfl⟩⟩
  ·exact ⟨2, .inr (.inl ⟨h, rfl⟩)⟩
  ·exact ⟨4, .inr (.inr ⟨h, rfl⟩)⟩
 obtain ⟨K, hK⟩ := hc
 cases ahead with
 | false => exact dt_slot which m (m % 3) K q W qc hq hf hb hj hK
 | true => exact dt_ahead which m (m % 3) K q W qc hq hf hb hj hK
end Go.Proofs.YtebfoimbdljbmaaGreatDoor
