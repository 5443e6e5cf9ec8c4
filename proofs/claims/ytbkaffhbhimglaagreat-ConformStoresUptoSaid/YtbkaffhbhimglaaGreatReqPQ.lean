/-
  Whether a request conforms to a schema: the program's own answer. The conditions: both lie in memory as they should, the context is nested at most a million deep.
-/
import Derived.Test.YtbkaffhbhimglaaGreatGh
import Derived.Test.YtbkaffhbhimglaaGreatActsQ
import Derived.Test.YtbkaffhbhimglaaGreatGf
namespace Go.Proofs.YtbkaffhbhimglaaGreat
open Go.RowKit
open Lib renaming hid → q_
set_option maxRecDepth 100000
set_option maxHeartbeats 4000000
structure Req where
 pr : Uid
 act : Uid
 res : Uid
 ctx : Val
def Req.At (S : Nat → Prop) (w : World) (q : Req) (cs : List Value) : Prop := ∃ acs, cs = .string q.pr.1 :: .string q.pr.2 :: .string q.act.1 :: .string q.act.2 :: .string q.res.1 :: .string q.res.2 :: acs ∧ (FitU q.pr ∧ FitU q.act ∧ FitU q.res) ∧ Val.At S w q.ctx acs
theorem Req.At.alike {S : Nat → Prop} {w w' : World} {q : Req} {cs : List Value} (h : Req.At S w q cs) (k : Alike S w w') : Req.At S w' q cs := by
 obtain ⟨acs, e, h1, h2⟩ := h
 exact ⟨acs, e, h1, h2.alike k⟩
theorem Req.At.mono {S S' : Nat → Prop} {w : World} {q : Req} {cs : List Value} (h : Req.At S w q cs) (k : ∀ b, S b → S' b) : Req.At S' w q cs := by
 obtain ⟨acs, e, h1, h2⟩ := h
 exact ⟨acs, e, h1, h2.mono k⟩
theorem Req.At.shape {S : Nat → Prop} {w : World} {q : Req} {cs : List Value} (h : Req.At S w q cs) : ∃ k b n t ut ui A l c A2 l2 c2, cs = [.string q.pr.1, .string q.pr.2, .string q.act.1, .string q.act.2, .string q.res.1, .string q.res.2, .int .i64 k, .bool b, .int .i64 n, .string t, .string ut, .string ui, .slice A l c, .slice A2 l2 c2] ∧
  Val.At S w q.ctx [.int .i64 k, .bool b, .int .i64 n, .string t, .string ut, .string ui, .slice A l c, .slice A2 l2 c2] := by
 obtain ⟨acs, rfl, _, h⟩ := h
 obtain ⟨k, b, n, t, ut, ui, A, l, c, A2, l2, c2, rfl⟩ := h.shape
 exact ⟨_, _, _, _, _, _, _, _, _, _, _, _, rfl, h⟩
def reqAns (s : Sch) (q : Req) : Int :=
 match zbi s.acts q.act.2 with
 | none => 41
 | some i => match s.acts[i]? with
  | none => 41
  | some a => if q.act.1 ≠ tAct ∨ ¬ (a.prs.any fun x => decide (x = q.pr.1)) ∨ ¬ (a.res.any fun x => decide (x = q.res.1)) then 41
   else if q.ctx.canon.2 ≠ 0 then q.ctx.canon.2 else if Ty.takes (.mk 8 ByteArray.empty [] a.ctx) q.ctx.canon.1 then 0 else 41
theorem tAct_list : tAct.toList = [65, 99, 116, 105, 111, 110] := by rw [ByteArray.toList_eq]; rfl
theorem tAct_of {x : ByteArray} (h : x.toList = [65, 99, 116, 105, 111, 110]) : x = tAct := zbs (h.trans tAct_list.symm)
theorem cells_part {w : World} {g : Nat} {pre cs : List Value} {T : TypeId} (h : w.heap[g]? = some (.cells (pre ++ cs).toArray T (0, 0))) : CellsAt w g pre.length cs := fun j v hj => by
 have h1 := zat h (pre.length + j) v (by rw [List.getElem?_append_right (by omega), Nat.add_sub_cancel_left]; exact hj)
 rwa [Nat.zero_add] at h1
theorem requestP_ok (S : Nat → Prop) (s : Sch) (ss : List Value) (q : Req) (cs : List Value) (w : World) (hd : q.ctx.dep ≤ 1000000) (hS : ∀ b, S b → b < w.heap.size) (hs : Sch.At S w s ss) (hq : Req.At S w q cs) :
  Calls Tryz.prog 14 #[.agg ss.toArray, .agg cs.toArray] w fun e w' => e = .returned (.int .i64 (reqAns s q)) ∧ Ext w w' := by
 have HSs := q_ hs
 obtain ⟨k, bo, n, t, ut, ui, A, l, c, A2, l2, c2, rfl, hv⟩ := hq.shape
 obtain ⟨v1, v2, rfl, ⟨SA, sc, rfl, _⟩, ⟨SB, sd, rfl, _⟩⟩ := hs
 have HV := q_ hv
 have HS := q_ hS
 have HD : Hid (∀ z, reqAns s q = z ↔ reqAns s q = z) := q_ fun _ => Iff.rfl
 obtain ⟨ans, hans⟩ : ∃ ans, reqAns s q = ans := ⟨_, rfl⟩
 rw [hans]
 have HAns := q_ hans
 obtain ⟨q0, q1, qs, qx⟩ := heapT2 w (.cells #[.slice SA s.types.length sc, .slice SB s.acts.length sd] 25) (.cells #[.string q.pr.1, .string q.pr.2, .string q.act.1, .string q.act.2, .string q.res.1, .string q.res.2, .int .i64 k, .bool bo, .int .i64 n, .string t, .string ut, .string ui, .slice A l c, .slice A2 l2 c2] 56)
 have Q1 := q_ q1
 have QX := q_ qx
 clear hv hq hS hans q0 q1 qs qx HD
 go_enter Tryz.func14, Tryz.ntmps14
 go_wp2_with fail
 refine (sac_ok S s [.slice SA s.types.length sc, .slice SB s.acts.length sd] q.act.2 _ (fun b hb => Nat.lt_of_lt_of_le (HS.out b hb) QX.out.size) (HSs.out.alike (Alike.of_ext QX.out HS.out))).mono ?_
 rintro e w1 ⟨ca, rfl, hca, hx1⟩
 have HX1 := q_ (QX.out.trans hx1)
 have HQ1 := q_ ((hx1.block _ (zad Q1.out)).trans Q1.out)
 clear hx1
 rcases hca with ⟨hno, rfl⟩ | ⟨i, a, hi, ha, hat⟩
 ·have HN : Hid (ans = 41) := q_ (by rw [← HAns.out]; unfold reqAns; rw [hno])
  rw [hno]
  rw [show zeroActT = [.string ByteArray.empty, .slice none 0 0, .slice none 0 0, .slice none 0 0, .slice none 0 0] from rfl]
  simp only [Option.isSome]
  clear hno
  go_wp2_with fail
  go_ret
  exact ⟨zag HN.out.symm, HX1.out.alloc _⟩
 ·rw [hi]
  have hil := (List.getElem?_eq_some_iff.1 ha).1
  have HA0 : Hid (ans = if q.act.1 ≠ tAct ∨ ¬ (a.prs.any fun x => decide (x = q.pr.1)) ∨ ¬ (a.res.any fun x => decide (x = q.res.1)) then 41
    else if q.ctx.canon.2 ≠ 0 then q.ctx.canon.2 else if Ty.takes (.mk 8 ByteArray.empty [] a.ctx) q.ctx.canon.1 then 0 else 41) := q_ (by rw [← HAns.out]; unfold reqAns; rw [hi]; simp only [ha])
  obtain ⟨x1, x2, x3, x4, rfl, _, hins, hprs, hres, hctx⟩ := hat
  obtain ⟨Ia, ic, rfl, _⟩ := id hins
  obtain ⟨Pa, pc, rfl, _⟩ := id hprs
  obtain ⟨Ra, rc, rfl, _⟩ := id hres
  obtain ⟨Ca, cc, rfl, ⟨_, _, _⟩, _⟩ := id hctx
  simp only [Option.isSome]
  obtain ⟨W, hW⟩ : ∃ W, W = w1.alloc (.cells #[.string a.id, .slice Ia a.ins.length ic, .slice Pa a.prs.length pc, .slice Ra a.res.length rc, .slice Ca a.ctx.length cc] 41) := ⟨_, rfl⟩
  have hxW : Ext w1 W := by rw [hW]; exact (Ext.refl w1).alloc _
  have hQ := (hxW.block _ (zad HQ1.out)).trans HQ1.out
  have hAc : W.heap[w1.heap.size]? = some (.cells #[.string a.id, .slice Ia a.ins.length ic, .slice Pa a.prs.length pc, .slice Ra a.res.length rc, .slice Ca a.ctx.length cc] 41 (0, 0)) := by rw [hW]; exact heap_alloc_new _ _
  have hal : Alike S w1 W := Alike.of_ext hxW fun b hb => Nat.lt_of_lt_of_le (HS.out b hb) HX1.out.size
  have HPr := q_ (hprs.alike hal)
  have HRs := q_ (hres.alike hal)
  have HCt := q_ (hctx.alike hal)
  have HXW := q_ (HX1.out.trans hxW)
  have HQ := q_ hQ
  have HAc := q_ hAc
  have d0 : W.cell? ⟨w.heap.size + 1, 0, none⟩ = some (.string q.pr.1) := cell_of_row _ _ 0 _ _ _ hQ
  have d2 : W.cell? ⟨w.heap.size + 1, 2, none⟩ = some (.string q.act.1) := cell_of_row _ _ 2 _ _ _ hQ
  have d4 : W.cell? ⟨w.heap.size + 1, 4, none⟩ = some (.string q.res.1) := cell_of_row _ _ 4 _ _ _ hQ
  have d6 : W.cell? ⟨w.heap.size + 1, 6, none⟩ = some (.int .i64 k) := cell_of_row _ _ 6 _ _ _ hQ
  clear hi ha hil hins hprs hres hctx hxW hQ hAc hal HAns
  subst hW
  go_wp2_with fail
  ·have hact : q.act.1 = tAct := tAct_of (by assumption)
   have HAct := q_ hact
   clear hact
   refine (zdy S a.prs _ q.pr.1 _ HPr.out).mono ?_
   rintro e w' ⟨rfl, rfl⟩
   obtain ⟨b1, hb1⟩ : ∃ b1, (a.prs.any fun x => q.pr.1.toList == x.toList) = b1 := ⟨_, rfl⟩
   rw [hb1]
   have HB1 : Hid ((a.prs.any fun x => decide (x = q.pr.1)) = b1) := q_ (by rw [← hb1]; exact congrArg a.prs.any (funext fun x => (zdk _ _).symm))
   clear hb1
   cases b1 with
   | false =>
    go_wp2_with fail
    go_ret
    exact ⟨zag (by rw [HA0.out, if_pos (.inr (.inl (by rw [HB1.out]; simp)))]), HXW.out⟩
   | true =>
    go_wp2_with fail
    refine (zdy S a.res _ q.res.1 _ HRs.out).mono ?_
    rintro e w' ⟨rfl, rfl⟩
    obtain ⟨b2, hb2⟩ : ∃ b2, (a.res.any fun x => q.res.1.toList == x.toList) = b2 := ⟨_, rfl⟩
    rw [hb2]
    have HB2 : Hid ((a.res.any fun x => decide (x = q.res.1)) = b2) := q_ (by rw [← hb2]; exact congrArg a.res.any (funext fun x => (zdk _ _).symm))
    clear hb2
    cases b2 with
    | false =>
     go_wp2_with fail
     go_ret
     exact ⟨zag (by rw [HA0.out, if_pos (.inr (.inr (by rw [HB2.out]; simp)))]), HXW.out⟩
    | true =>
     have HA1 : Hid (ans = if q.ctx.canon.2 ≠ 0 then q.ctx.canon.2 else if Ty.takes (.mk 8 ByteArray.empty [] a.ctx) q.ctx.canon.1 then 0 else 41) := q_ (by rw [HA0.out, if_neg (by rw [HB1.out, HB2.out]; simp [HAct.out])])
     have hcx := cells_part (cs := [.int .i64 k, .bool bo, .int .i64 n, .string t, .string ut, .string ui, .slice A l c, .slice A2 l2 c2]) (pre := [.string q.pr.1, .string q.pr.2, .string q.act.1, .string q.act.2, .string q.res.1, .string q.res.2]) HQ.out
     have HCx := q_ hcx
     clear hcx HA0 HB1 HB2 HAct d0 d2 d4 d6
     go_wp2_with (first | refine zac rfl 46 _ rfl (w.heap.size + 1) 6 rfl zai zaf rfl HCx.out ?_)
     refine (canon_okP q.ctx S _ [_, _, _, _, _, _, _, _] hd (fun b hb => Nat.lt_of_lt_of_le (HS.out b hb) HXW.out.size) (HV.out.alike (Alike.of_ext HXW.out HS.out))).mono ?_
     rintro e w3 ⟨cc3, rfl, hc3, hx3⟩
     obtain ⟨k3, b3, n3, t3, ut3, ui3, A3, l3, c3, A4, l4, c4, rfl⟩ := hc3.shape
     have HX3 := q_ (HXW.out.trans hx3)
     have hAc3 := (hx3.block _ (zad HAc.out)).trans HAc.out
     have z4 : ∀ o, (w3.alloc o).cell? ⟨w1.heap.size, 4, none⟩ = some (.slice Ca a.ctx.length cc) := fun o => (World.cell?_of_block (w := w3) (heap_alloc_old _ _ (zad hAc3))).trans (cell_of_row _ _ 4 _ _ _ hAc3)
     obtain ⟨er, her⟩ : ∃ er, q.ctx.canon.2 = er := ⟨_, rfl⟩
     have HC3 := q_ hc3
     have HCt3 := q_ (HCt.out.alike (Alike.of_ext hx3 fun b hb => Nat.lt_of_lt_of_le (HS.out b hb) HXW.out.size))
     rw [her] at HA1 ⊢
     have HEr := q_ her
     clear hc3 hx3 hAc3 her
     by_cases h0 : er = 0
     ·subst h0
      obtain ⟨tb, htb⟩ : ∃ tb, Ty.takes (.mk 8 ByteArray.empty [] a.ctx) q.ctx.canon.1 = tb := ⟨_, rfl⟩
      have HTb := q_ htb
      rw [htb] at HA1
      clear htb
      go_wp2_with fail
      refine (takes_ok _ q.ctx.canon.1 (Nat.le_refl _) (canon_is HEr.out) q.ctx.canon.1 (by simp) (.mk 8 ByteArray.empty [] a.ctx) (fun b => b < w3.heap.size) (w3.alloc _) [_, _, _, _, _, _, _, _] [_, _, _, _] (fun b hb => by simp; omega)
       ((HC3.out.mono fun b hb => hb.2).alike (Alike.of_ext ((Ext.refl w3).alloc _) fun b hb => hb)) (Ty.At.of (by unfold I64; omega) (by rw [zab]; decide) (Rep.RowsAt.nil _ _) ((HCt3.out.mono fun b hb => Nat.lt_of_lt_of_le (HS.out b hb) HX3.out.size).alike (Alike.of_ext ((Ext.refl w3).alloc _) fun b hb => hb)))).mono ?_
      rintro e w4 ⟨rfl, hx4⟩
      rw [HTb.out]
      have HX4 := q_ ((HX3.out.alloc _).trans hx4)
      clear hx4 z4
      cases tb
      all_goals
       go_wp2_with fail
       go_ret
       exact ⟨zag (by rw [HA1.out]; simp), HX4.out⟩
     ·have e0 : (er != 0) = true := by simpa using h0
      have H0 := q_ h0
      clear h0 z4
      go_wp2_with fail
      go_ret
      exact ⟨zag (by rw [HA1.out, if_pos H0.out]), HX3.out.alloc _⟩
  ·have hact : q.act.1 ≠ tAct := fun h => absurd (show q.act.1.toList = [65, 99, 116, 105, 111, 110] by rw [h, tAct_list]) (by assumption)
   have HAct := q_ hact
   clear hact
   go_ret
   exact ⟨zag (by rw [HA0.out, if_pos (.inl HAct.out)]), HXW.out⟩
end Go.Proofs.YtbkaffhbhimglaaGreat
