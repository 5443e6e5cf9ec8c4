/-
  Whether entities conform to a schema: what the program's Store asks of each. The conditions: all lies in memory as it should.
-/
import Derived.Test.YtbkaffhbhimglaaGreatReqPQ
namespace Go.Proofs.YtbkaffhbhimglaaGreat
open Go.RowKit
open Lib renaming hid → q_
set_option maxRecDepth 100000
set_option maxHeartbeats 1600000
theorem zck : ∀ w, (isAgg 25).run Tryz.prog w = .ok true w := fun _ => by kernel_rfl
theorem zb5 : ∀ w, (Go.sizeOf 25).run Tryz.prog w = .ok 2 w := fun _ => by kernel_rfl
theorem Tryz.enterS1 : ∀ args w, (callFunc 25 args).run Tryz.prog w = .ok (.enter 25 args) w := fun _ _ => by kernel_rfl
theorem Tryz.enterS2 : ∀ args w, (callFunc 29 args).run Tryz.prog w = .ok (.enter 29 args) w := fun _ _ => by kernel_rfl
theorem equalU_ok (S : Nat → Prop) (l m : List Uid) (v u : Value) (w : World) (hS : ∀ b, S b → b < w.heap.size) (hl : uidR.RowsAt S w l v) (hm : uidR.RowsAt S w m u) :
  Calls Tryz.prog 26 #[v, u] w fun e w' => e = .returned (.bool (decide (l = m))) ∧ Ext w w' := by
 obtain ⟨A, cap, rfl, ⟨hl0, hl1, hl2⟩, hlr⟩ := hl
 obtain ⟨B, capb, rfl, ⟨hm0, hm1, hm2⟩, hmr⟩ := hm
 rw [zak] at hl0 hm0
 rw [zab] at hl2 hm2
 have HL := q_ hlr
 have HM := q_ hmr
 have HS := q_ hS
 obtain ⟨res, hres⟩ : ∃ res, decide (l = m) = res := ⟨_, rfl⟩
 rw [hres]
 have HR := q_ hres
 clear hlr hmr hres hS
 by_cases hn : l.length = m.length
 ·go_enter Tryz.func26, Tryz.ntmps26
  have Hn := q_ hn
  have e0 : ((l.length : Int) != (m.length : Int)) = false := by simp [hn]
  clear hn
  go_wp2_with fail
  go_loopw [13] (fun i wr => ∃ k : Nat, k ≤ l.length ∧ i = .int .i64 k ∧ Hid (Ext w wr) ∧ Hid (∀ i x y, i < k → l[i]? = some x → m[i]? = some y → x = y)) (fun i _ => l.length - (intOf i).toNat)
  case atStart => exact ⟨0, Nat.zero_le _, rfl, q_ (Ext.refl w), q_ fun _ _ _ h => by omega⟩
  case round =>
   obtain ⟨k, hk, rfl, HX, Hall⟩ := hrel
   by_cases hlt : k < l.length
   ·have hkm : k < m.length := by have := Hn.out; omega
    obtain ⟨b, o, rfl, hSb, hrow⟩ := HL.out (by omega)
    obtain ⟨b2, o2, rfl, hSb2, hrow2⟩ := HM.out (by omega)
    obtain ⟨x, hx⟩ : ∃ x, l[k]? = some x := ⟨_, List.getElem?_eq_getElem hlt⟩
    obtain ⟨y, hy⟩ : ∃ y, m[k]? = some y := ⟨_, List.getElem?_eq_getElem hkm⟩
    obtain ⟨cs, hca, rfl, _⟩ := hrow k x hx
    obtain ⟨ds, hcb, rfl, _⟩ := hrow2 k y hy
    have hca : CellsAt w b (o + k * 2) [.string x.1, .string x.2] := hca
    have hcb : CellsAt w b2 (o2 + k * 2) [.string y.1, .string y.2] := hcb
    have c0 := zaa (show wr.cell? ⟨b, o + k * 2, none⟩ = some (.string x.1) from (hca.alike hSb (Alike.of_ext HX.out HS.out)) 0 _ rfl)
    have c1 := zaa (show wr.cell? ⟨b, o + k * 2 + 1, none⟩ = some (.string x.2) from (hca.alike hSb (Alike.of_ext HX.out HS.out)) 1 _ rfl)
    have c2 := zaa (show wr.cell? ⟨b2, o2 + k * 2, none⟩ = some (.string y.1) from (hcb.alike hSb2 (Alike.of_ext HX.out HS.out)) 0 _ rfl)
    have c3 := zaa (show wr.cell? ⟨b2, o2 + k * 2 + 1, none⟩ = some (.string y.2) from (hcb.alike hSb2 (Alike.of_ext HX.out HS.out)) 1 _ rfl)
    obtain ⟨db, hdb⟩ : ∃ db, decide (x = y) = db := ⟨_, rfl⟩
    have tq : ∀ w, (binOp .neq 43 (.agg #[.string x.1, .string x.2]) (.agg #[.string y.1, .string y.2])).run Tryz.prog w = .ok (.bool (!db)) w := fun w => by have h := neqU x y w; rw [hdb] at h; exact h
    have tq' : ∀ w, (Op.equalIn 10000 43 (.agg #[.string x.1, .string x.2]) (.agg #[.string y.1, .string y.2])).run Tryz.prog w = .ok db w := fun w => by have h := zcr x y w; rw [hdb] at h; exact h
    have tg : ∀ (p q : Operand) w, (eqGuard .neq 43 p q (.agg #[.string x.1, .string x.2]) (.agg #[.string y.1, .string y.2])).run Tryz.prog w = .ok () w := fun p q w => guardU _ p q x y w
    have Hx := q_ hx
    have Hy := q_ hy
    have HDb := q_ hdb
    clear hx hy hrow hrow2 hSb hSb2 hca hcb hdb
    go_wp2_with fail
    refine zae (by kernel_rfl) (by kernel_rfl) ?_
    iterate 9 (go_big_quiet_step (fail))
    refine wpQuiet_nil ?_
    intro w4 hw4
    have HX4 := q_ (HX.out.trans hw4)
    clear hw4 c0 c1 c2 c3 tq tq' tg
    cases db with
    | true =>
     go_wp2_with fail
     go_roundw
     case rel => exact ⟨k + 1, by omega, by go_num, HX4, q_ fun i p q hi hp hq => by
      by_cases hik : i = k
      ·subst hik; rw [Hx.out] at hp; cases hp; rw [Hy.out] at hq; cases hq; exact of_decide_eq_true HDb.out
      ·exact Hall.out i p q (by omega) hp hq⟩
     case measure => simp [intOf]; omega
    | false =>
     go_wp2_with fail
     go_ret
     exact ⟨zal (by
      rw [← HR.out, eq_comm, decide_eq_false_iff_not]
      intro h
      have h1 := Hx.out
      rw [h, Hy.out] at h1
      exact of_decide_eq_false HDb.out (Option.some.inj h1).symm), HX4.out⟩
   ·go_wp2_with fail
    go_ret
    have hke : k = l.length := by omega
    subst hke
    exact ⟨zal (by
     rw [← HR.out, eq_comm, decide_eq_true_eq]
     apply List.ext_getElem?
     intro i
     have := Hn.out
     by_cases hi : i < l.length
     ·rw [List.getElem?_eq_getElem hi, List.getElem?_eq_getElem (by omega)]
      exact congrArg some (Hall.out i _ _ hi (List.getElem?_eq_getElem hi) (List.getElem?_eq_getElem (by omega)))
     ·rw [List.getElem?_eq_none (by omega), List.getElem?_eq_none (by omega)]), HX.out⟩
 ·have e0 : ((l.length : Int) != (m.length : Int)) = true := by simp; omega
  have Hn := q_ hn
  clear hn
  go_enter Tryz.func26, Tryz.ntmps26
  go_wp2_with fail
  go_ret
  exact ⟨zal (by
   rw [← HR.out, eq_comm, decide_eq_false_iff_not]
   intro h
   exact Hn.out (by rw [h])), Ext.refl _⟩
def sameE (x a : Ent) : Bool := decide (a.uid = x.uid) && (decide (a.ps = x.ps) && decide (x.av.names.length = 0))
theorem store1_ok (x a : Ent) (S : Nat → Prop) (w : World) (cx ca : List Value) (g : Nat) (hS : ∀ b, S b → b < w.heap.size) (hx : entR.At S w x cx) (ha : entR.At S w a ca) (hg : w.heap[g]? = some (.cells cx.toArray 49 (0, 0))) :
  Calls Tryz.prog 25 (#[.agg ca.toArray] ++ #[.pointer (some ⟨g, 0, none⟩)]) w fun e w' => e = .returned (.bool (sameE x a)) ∧ Ext w w' := by
 obtain ⟨xp, xa, rfl, _, hxp, hxa⟩ := hx
 obtain ⟨ap, aa, rfl, _, hap, haa⟩ := ha
 obtain ⟨xk, xb, xn, xt, xut, xui, xA, xl, xc, xB, xm, xd, rfl⟩ := hxa.shape
 obtain ⟨ak, ab, an, at', aut, aui, aA, al, ac, aB, am, ad, rfl⟩ := haa.shape
 obtain ⟨xmn, xavn⟩ : xm = x.av.names.length ∧ True := ⟨by
  generalize x.av = v at hxa
  obtain ⟨_, _, _, _, _, _, _, names⟩ := v
  obtain ⟨_, _, e, _⟩ := hxa.strs
  injection e, trivial⟩
 subst xmn
 obtain ⟨Pa, pc, rfl, _⟩ := id hxp
 obtain ⟨Qa, qc, rfl, _⟩ := id hap
 have hB := Below.heap_alloc w (.cells #[.string a.uid.1, .string a.uid.2, .slice Qa a.ps.length qc, .int .i64 ak, .bool ab, .int .i64 an, .string at', .string aut, .string aui, .slice aA al ac, .slice aB am ad] 49) g (zad hg)
 have hgW := hB.trans hg
 have hxW := (Ext.refl w).alloc (.cells #[.string a.uid.1, .string a.uid.2, .slice Qa a.ps.length qc, .int .i64 ak, .bool ab, .int .i64 an, .string at', .string aut, .string aui, .slice aA al ac, .slice aB am ad] 49)
 have HP := q_ (hap.alike (Alike.of_ext hxW hS))
 have HQ := q_ (hxp.alike (Alike.of_ext hxW hS))
 have HSW := q_ (show ∀ b, S b → b < _ from fun b hb => Nat.lt_of_lt_of_le (hS b hb) hxW.size)
 have HX := q_ hxW
 obtain ⟨W, hW⟩ : ∃ W, W = w.alloc (.cells #[.string a.uid.1, .string a.uid.2, .slice Qa a.ps.length qc, .int .i64 ak, .bool ab, .int .i64 an, .string at', .string aut, .string aui, .slice aA al ac, .slice aB am ad] 49) := ⟨_, rfl⟩
 rw [← hW] at hgW HP HQ HSW HX
 have c0 : W.cell? ⟨g, 0, none⟩ = some (.string x.uid.1) := cell_of_row _ _ 0 _ _ _ hgW
 have c1 : W.cell? ⟨g, 1, none⟩ = some (.string x.uid.2) := cell_of_row _ _ 1 _ _ _ hgW
 have c2 : W.cell? ⟨g, 2, none⟩ = some (.slice Pa x.ps.length pc) := cell_of_row _ _ 2 _ _ _ hgW
 have HGW := q_ hgW
 obtain ⟨db, hdb⟩ : ∃ db, decide (a.uid = x.uid) = db := ⟨_, rfl⟩
 have tq : ∀ w, (binOp .eql 43 (.agg #[.string a.uid.1, .string a.uid.2]) (.agg #[.string x.uid.1, .string x.uid.2])).run Tryz.prog w = .ok (.bool db) w := fun w => by have h := eqlU a.uid x.uid w; rw [hdb] at h; exact h
 have tq' : ∀ w, (Op.equalIn 10000 43 (.agg #[.string a.uid.1, .string a.uid.2]) (.agg #[.string x.uid.1, .string x.uid.2])).run Tryz.prog w = .ok db w := fun w => by have h := zcr a.uid x.uid w; rw [hdb] at h; exact h
 have tg : ∀ (p q : Operand) w, (eqGuard .eql 43 p q (.agg #[.string a.uid.1, .string a.uid.2]) (.agg #[.string x.uid.1, .string x.uid.2])).run Tryz.prog w = .ok () w := fun p q w => guardU _ p q a.uid x.uid w
 obtain ⟨pb, hpb⟩ : ∃ pb, decide (a.ps = x.ps) = pb := ⟨_, rfl⟩
 obtain ⟨nb, hnb⟩ : ∃ nb, ((x.av.names.length : Int) == 0) = nb := ⟨_, rfl⟩
 have hres : sameE x a = (db && (pb && nb)) := by
  unfold sameE
  rw [hdb, hpb, ← hnb]
  congr 2
  rw [Bool.eq_iff_iff, decide_eq_true_eq, beq_iff_eq]
  omega
 rw [hres]
 have HPb := q_ hpb
 clear hg hB hgW hxW hdb hpb hres hxp hap hxa haa hS xavn
 subst hW
 show Calls Tryz.prog 25 #[.agg #[.string a.uid.1, .string a.uid.2, .slice Qa a.ps.length qc, .int .i64 ak, .bool ab, .int .i64 an, .string at', .string aut, .string aui, .slice aA al ac, .slice aB am ad], .pointer (some ⟨g, 0, none⟩)] w _
 cases db with
 | false =>
  go_enter Tryz.func25, Tryz.ntmps25
  go_wp2_with fail
  go_ret
  exact ⟨rfl, HX.out⟩
 | true =>
  go_enter Tryz.func25, Tryz.ntmps25
  go_wp2_with fail
  refine (equalU_ok S a.ps x.ps _ _ _ HSW.out HP.out HQ.out).mono ?_
  rintro e w2 ⟨rfl, hx2⟩
  rw [HPb.out]
  have HX2 := q_ (HX.out.trans hx2)
  have c10 : w2.cell? ⟨g, 10, none⟩ = some (.slice xB x.av.names.length xd) := cell_of_row _ _ 10 _ _ _ ((hx2.block _ (zad HGW.out)).trans HGW.out)
  clear hx2 c0 c1 c2 tq tq' tg
  cases pb with
  | false =>
   go_wp2_with fail
   go_ret
   exact ⟨rfl, HX2.out⟩
  | true =>
   go_wp2_with fail
   go_ret
   exact ⟨zal (by simp), HX2.out⟩
theorem store2_ok (t : EntT) (p : Uid) (S : Nat → Prop) (w : World) (ct : List Value) (g : Nat) (hS : ∀ b, S b → b < w.heap.size) (ht : entTR.At S w t ct) (hg : w.heap[g]? = some (.cells ct.toArray 39 (0, 0))) :
  Calls Tryz.prog 29 (#[valU p] ++ #[.pointer (some ⟨g, 0, none⟩)]) w fun e w' => e = .returned (.bool (!(t.ins.any fun n => decide (n = p.1)))) ∧ Ext w w' := by
 obtain ⟨v1, v2, rfl, _, h1, _⟩ := ht
 obtain ⟨A, c, rfl, _⟩ := id h1
 have hxW := (Ext.refl w).alloc (.cells #[.string p.1, .string p.2] 43)
 have c1 : (w.alloc (.cells #[.string p.1, .string p.2] 43)).cell? ⟨g, 1, none⟩ = some (.slice A t.ins.length c) := cell_of_row _ _ 1 _ _ _ ((hxW.block _ (zad hg)).trans hg)
 have HI := q_ (h1.alike (Alike.of_ext hxW hS))
 have HX := q_ hxW
 obtain ⟨b1, hb1⟩ : ∃ b1, (t.ins.any fun x => p.1.toList == x.toList) = b1 := ⟨_, rfl⟩
 have hb : (t.ins.any fun n => decide (n = p.1)) = b1 := by rw [← hb1]; exact congrArg t.ins.any (funext fun x => (zdk _ _).symm)
 rw [hb]
 have HB := q_ hb1
 clear hg h1 hb hb1 hS hxW
 show Calls Tryz.prog 29 #[.agg #[.string p.1, .string p.2], .pointer (some ⟨g, 0, none⟩)] w _
 go_enter Tryz.func29, Tryz.ntmps29
 go_wp2_with fail
 refine (zdy S t.ins _ p.1 _ HI.out).mono ?_
 rintro e w' ⟨rfl, rfl⟩
 rw [HB.out]
 go_wp2_with fail
 go_ret
 exact ⟨rfl, HX.out⟩
end Go.Proofs.YtbkaffhbhimglaaGreat
