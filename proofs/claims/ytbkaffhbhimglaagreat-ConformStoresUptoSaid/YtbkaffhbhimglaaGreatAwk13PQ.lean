/-
  What the thirteenth layer's statements try first, in plain words. No program in sight. The conditions: none (lemmas).
-/
import Derived.Test.YtbkaffhbhimglaaGreatStoPQ
namespace Go.Proofs.YtbkaffhbhimglaaGreat
open Go.RowKit
theorem zee {l : List Ent} (h0 : l.length ≤ 4096) (hn : (l.map Ent.uid).Nodup) (h : ∀ e ∈ l, e.ps = [] ∧ e.av = recV) : Good l := by
 refine ⟨h0, hn, fun e he => ?_, ?_⟩
 ·obtain ⟨h1, h2⟩ := h e he
  exact ⟨by rw [h2]; rfl, by rw [h2, recV_canon], fun p hp => by rw [h1] at hp; cases hp⟩
 ·rintro ⟨u, _, hu⟩
  exact hu (Acc.intro _ fun y ⟨e, he, _, hp, _⟩ => by rw [(h e he).1] at hp; cases hp)
theorem canon_plain {l : List Ent} (h0 : l.length ≤ 4096) (hn : (l.map Ent.uid).Nodup) (h : ∀ e ∈ l, e.ps = [] ∧ e.av = recV) (x : Ent) : x ∈ (zar l).1 ↔ x ∈ l := by
 have hp : ∀ e ∈ l, putE e = e := fun e he => by
  obtain ⟨h1, h2⟩ := h e he
  obtain ⟨u, ps, av⟩ := e
  dsimp only at h1 h2
  subst h1 h2
  unfold putE
  rw [recV_canon]
  rfl
 rw [canonE_mem (zee h0 hn h)]
 constructor
 ·rintro ⟨e, he, rfl⟩; rw [hp e he]; exact he
 ·intro hx; exact ⟨x, hx, hp x hx⟩
def tUser : ByteArray := ⟨#[85, 115, 101, 114]⟩
def tVw : ByteArray := ⟨#[118]⟩
def tAa : ByteArray := ⟨#[97]⟩
def sch13 : Sch := ⟨[⟨tUser, [], []⟩], [⟨tVw, [], [tUser], [tUser], []⟩]⟩
def eAct : Ent := ⟨(tAct, tVw), [], recV⟩
def eUser : Ent := ⟨(tUser, tAa), [], recV⟩
def req13 : Req := ⟨(tUser, tAa), (tAct, tVw), (tUser, tAa), recV⟩
theorem acts13 : zaz sch13.acts = [eAct] := rfl
theorem user_not : tUser ≠ tAct := fun h => by
 have := congrArg ByteArray.size h
 exact absurd this (by decide)
theorem nodup13 : ([eAct, eUser].map Ent.uid).Nodup := by
 simp only [List.map_cons, List.map_nil, List.nodup_cons, List.mem_singleton, List.not_mem_nil, not_false_eq_true, List.nodup_nil, and_true]
 intro h
 exact user_not (Prod.mk.inj h).1.symm
theorem zep : ∀ e ∈ [eAct, eUser], e.ps = [] ∧ e.av = recV := by
 intro e he
 simp only [List.mem_cons, List.not_mem_nil, or_false] at he
 rcases he with rfl | rfl <;> exact ⟨rfl, rfl⟩
theorem same13 : sameE eAct eAct = true := by
 unfold sameE
 simp [eAct, recV, Val.names]
theorem acts13_any : (zar [eAct]).1.any (sameE eAct) = true :=
 List.any_eq_true.2 ⟨eAct, (canon_plain (by simp) (by simp) (fun e he => zep e (by simp at he ⊢; exact .inl he)) _).2 (by simp), same13⟩
theorem okAct13 : okE sch13 (zar [eAct]).1 eAct = true := by
 unfold okE
 rw [if_pos (show eAct.uid.1 = tAct from rfl)]
 exact acts13_any
theorem okUser13 (acts : List Ent) : okE sch13 acts eUser = true := by
 unfold okE
 rw [if_neg (show ¬ eUser.uid.1 = tAct from user_not)]
 have : zca sch13.types eUser.uid.1 = some 0 := by
  exact zbl (k := 0) (x := ⟨tUser, [], []⟩) rfl (by show (tUser.toList == tUser.toList) = true; simp) fun _ _ h => by omega
 rw [this]
 rfl
theorem len13 : (zar [eAct]).1.length = 1 := canonE_length (zee (by simp) (by simp) (fun e he => zep e (by simp at he ⊢; exact .inl he)))
theorem all13 : (zar [eAct, eUser]).1.all (okE sch13 (zar [eAct]).1) = true := by
 rw [List.all_eq_true]
 intro x hx
 rw [canon_plain (by simp) nodup13 zep] at hx
 simp only [List.mem_cons, List.not_mem_nil, or_false] at hx
 rcases hx with rfl | rfl
 ·exact okAct13
 ·exact okUser13 _
theorem found13 : zbz (zar [eAct, eUser]).1 = 1 := by
 have hp := zex (zee (l := [eAct, eUser]) (by simp) nodup13 zep)
 have h2 := (hp.filter fun x => decide (x.uid.1 = tAct)).length_eq
 unfold zbz
 rw [h2]
 show (([putE eAct, putE eUser] : List Ent).filter fun x => decide (x.uid.1 = tAct)).length = 1
 have e1 : (putE eAct).uid.1 = tAct := rfl
 have e2 : (putE eUser).uid.1 ≠ tAct := user_not
 simp [e1, e2]
theorem sto13 : zdp sch13 [eAct, eUser] = 0 := by
 unfold zdp
 rw [acts13, if_neg (by rw [canonE_iff.2 (zee (by simp) nodup13 zep)]; simp), all13, if_pos rfl, found13, len13, if_neg (by omega)]
theorem sto13' : zdp sch13 [eUser] = 41 := by
 unfold zdp
 have hpl : ∀ e ∈ [eUser], e.ps = [] ∧ e.av = recV := fun e he => zep e (by simp at he ⊢; exact .inr he)
 have hg := zee (l := [eUser]) (by simp) (by simp) hpl
 rw [acts13, if_neg (by rw [canonE_iff.2 hg]; simp)]
 by_cases h : (zar [eUser]).1.all (okE sch13 (zar [eAct]).1)
 ·rw [if_pos h, len13, if_pos]
  have h2 := ((zex hg).filter fun x => decide (x.uid.1 = tAct)).length_eq
  unfold zbz
  rw [h2]
  have e2 : (putE eUser).uid.1 ≠ tAct := user_not
  simp [e2]
 ·rw [if_neg h]
theorem req13_ok : reqAns sch13 req13 = 0 := by
 unfold reqAns
 have : zbi sch13.acts req13.act.2 = some 0 := by
  exact zbl (k := 0) (x := ⟨tVw, [], [tUser], [tUser], []⟩) rfl (by show (tVw.toList == tVw.toList) = true; simp) fun _ _ h => by omega
 rw [this]
 have h1 : ¬ (req13.act.1 ≠ tAct ∨ ¬ (([tUser] : List ByteArray).any fun x => decide (x = req13.pr.1)) ∨ ¬ (([tUser] : List ByteArray).any fun x => decide (x = req13.res.1))) := by
  simp [req13]
 have h2 : req13.ctx.canon = (recV, 0) := recV_canon
 show (if req13.act.1 ≠ tAct ∨ ¬ (([tUser] : List ByteArray).any fun x => decide (x = req13.pr.1)) ∨ ¬ (([tUser] : List ByteArray).any fun x => decide (x = req13.res.1)) then (41 : Int)
  else if req13.ctx.canon.2 ≠ 0 then req13.ctx.canon.2 else if Ty.takes (.mk 8 ByteArray.empty [] []) req13.ctx.canon.1 then 0 else 41) = 0
 rw [if_neg h1, h2, if_neg (by simp), if_pos]
 simp [Ty.takes, recV]
end Go.Proofs.YtbkaffhbhimglaaGreat
