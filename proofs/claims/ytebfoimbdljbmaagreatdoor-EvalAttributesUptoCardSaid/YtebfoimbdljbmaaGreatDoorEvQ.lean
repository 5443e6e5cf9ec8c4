/-
  What an expression comes to, as plain data: of a request and of entities. No program in sight. The conditions: none (definitions and lemmas).
-/
import Derived.Test.YtebfoimbdljbmaaGreatDoorExpQ
import Derived.Test.YtebfoimbdljbmaaGreatDoorGk
import Derived.Test.YtebfoimbdljbmaaGreatDoorGj
namespace Go.Proofs.YtebfoimbdljbmaaGreatDoor
open Go.RowKit
abbrev Rs := Val × Int
def Val.truth (b : Bool) : Val := .mk 1 b 0 ByteArray.empty ByteArray.empty ByteArray.empty [] []
def Val.whole (n : Int) : Val := .mk 2 false n ByteArray.empty ByteArray.empty ByteArray.empty [] []
def Val.ofU (u : Uid) : Val := .mk 4 false 0 ByteArray.empty u.1 u.2 [] []
def Val.uid (v : Val) : Uid := (v.ut, v.ui)
def no (e : Int) : Rs := (.zero, e)
def yes (b : Bool) : Rs := (.truth b, 0)
def varV (q : Req) (name : ByteArray) : Rs :=
 if name.toList = [112, 114, 105, 110, 99, 105, 112, 97, 108] then (.ofU q.pr, 0) else
 if name.toList = [97, 99, 116, 105, 111, 110] then (.ofU q.act, 0) else
 if name.toList = [114, 101, 115, 111, 117, 114, 99, 101] then (.ofU q.res, 0) else
 if name.toList = [99, 111, 110, 116, 101, 120, 116] then q.ctx.canon else no 1
def zb3 (op : Int) : Int :=
 if op < 1 ∨ 23 < op then 4 else if op ≤ 3 then 0 else if op = 6 ∨ op = 14 ∨ (16 ≤ op ∧ op ≤ 18) then 1 else if op = 7 then 3 else if op = 19 ∨ op = 20 then -1 else 2
def zcu (op : Int) (kids names : Nat) : Bool := decide (3 < zb3 op) || ((decide (0 ≤ zb3 op) && decide ((kids : Int) ≠ zb3 op)) || (decide (op = 20) && decide (names ≠ kids)))
def zeg (r : Rs) (k : Int) : Rs := if r.2 ≠ 0 then no r.2 else if r.1.kind ≠ k then no 30 else r
def zda : List Rs → List Val × Int
 | [] => ([], 0)
 | r :: l => if r.2 ≠ 0 then ([], r.2) else if (zda l).2 ≠ 0 then ([], (zda l).2) else (r.1 :: (zda l).1, 0)
def zdp (op : Int) (a b d : Rs) : Rs :=
 if (zeg a 1).2 ≠ 0 then no (zeg a 1).2 else if op = 7 then (if a.1.bo then b else d) else if a.1.bo = decide (op = 5) then (a.1, 0) else zeg b 1
def zbl (c : List Ent) (v : Val) : Val × Bool × Int :=
 if v.kind = 6 then (v, true, 0) else
 if v.kind = 4 then match idx (c.map Ent.uid) v.uid with
  | none => (.zero, false, 0)
  | some i => match c[i]? with
   | none => (.zero, false, 0)
   | some x => (x.av, true, 0)
 else (.zero, false, 30)
def za3 (c : List Ent) (op : Int) (name : ByteArray) (v : Val) : Rs :=
 if (zbl c v).2.2 ≠ 0 then no (zbl c v).2.2 else
 if op = 17 then yes ((zbl c v).2.1 && ((zbl c v).1.find name).isSome) else
 if (zbl c v).2.1 = false then no 22 else
 match (zbl c v).1.find name with
 | none => no 31
 | some i => ((((zbl c v).1.items[i]?).getD .zero), 0)
noncomputable def withinV (c : List Ent) (a b : Val) : Rs :=
 if a.kind ≠ 4 ∨ (if b.kind = 5 then b.items else [b]).any (fun x => x.kind != 4) then no 30 else yes ((if b.kind = 5 then b.items else [b]).any fun x => inB c a.uid x.uid)
def setsV (op : Int) (a b : Val) : Rs :=
 if a.kind ≠ 5 ∨ (op ≠ 21 ∧ b.kind ≠ 5) then no 30 else
 if op = 21 then yes (a.holds b) else if op = 23 then yes (b.items.any fun x => a.holds x) else yes (!(b.items.any fun x => !(a.holds x)))
def fitI (n : Int) : Rs := if -9223372036854775808 ≤ n ∧ n ≤ 9223372036854775807 then (.whole n, 0) else no 14
noncomputable def twoV (c : List Ent) (op : Int) (a b : Val) : Rs :=
 if op = 8 then yes (a.ord b == 0) else
 if op = 15 then withinV c a b else
 if op = 21 ∨ op = 22 ∨ op = 23 then setsV op a b else
 if a.kind ≠ 2 ∨ b.kind ≠ 2 then no 30 else
 if op = 9 then yes (decide (a.num < b.num)) else
 if op = 10 then yes (decide (a.num ≤ b.num)) else
 if op = 11 then fitI (a.num + b.num) else
 if op = 12 then fitI (a.num - b.num) else fitI (a.num * b.num)
def oneV (c : List Ent) (op : Int) (name : ByteArray) (a : Val) : Rs :=
 if op = 17 ∨ op = 18 then za3 c op name a else
 if op = 6 then (if a.kind = 1 then yes (!a.bo) else no 30) else
 if op = 16 then (if a.kind = 4 then yes (decide (a.ut = name)) else no 30) else
 if op = 14 then (if a.kind = 2 then fitI (-a.num) else no 30) else no 30
noncomputable def evOp (q : Req) (c : List Ent) (op : Int) (v : Val) (name : ByteArray) (names : List ByteArray) (rs : List Rs) : Rs :=
 if zcu op rs.length names.length then no 1 else
 if op = 1 then v.canon else
 if op = 2 then varV q name else
 if op = 3 then no 32 else
 if op = 4 ∨ op = 5 ∨ op = 7 then zdp op (rs[0]?.getD (no 1)) (rs[1]?.getD (no 1)) (rs[2]?.getD (no 1)) else
 if (zda rs).2 ≠ 0 then no (zda rs).2 else
 if op = 19 then (Val.mk 5 false 0 ByteArray.empty ByteArray.empty ByteArray.empty (zda rs).1 []).canon else
 if op = 20 then (Val.mk 6 false 0 ByteArray.empty ByteArray.empty ByteArray.empty (zda rs).1 names).canon else
 match (zda rs).1 with
 | [a] => oneV c op name a
 | a :: b :: _ => twoV c op a b
 | [] => no 1
mutual
noncomputable def Exp.ev (q : Req) (c : List Ent) : Exp → Rs
 | .mk op v name kids names => evOp q c op v name names (Exp.evs q c kids)
noncomputable def Exp.evs (q : Req) (c : List Ent) : List Exp → List Rs
 | [] => []
 | e :: r => e.ev q c :: Exp.evs q c r
end
noncomputable def Exp.eval (q : Req) (c : List Ent) (e : Exp) : Rs := if 50 < e.dep then no 11 else e.ev q c
theorem Exp.evs_eq (q : Req) (c : List Ent) : ∀ l : List Exp, Exp.evs q c l = l.map (Exp.ev q c)
 | [] => rfl
 | e :: r => by simp [Exp.evs, Exp.evs_eq q c r]
theorem Exp.ev_def (q : Req) (c : List Ent) (e : Exp) : e.ev q c = evOp q c e.op e.v e.name e.names (e.kids.map (Exp.ev q c)) := by
 obtain ⟨op, v, name, kids, names⟩ := e
 simp [Exp.ev, Exp.evs_eq, Exp.op, Exp.v, Exp.name, Exp.kids, Exp.names]
/-! ### what it comes to is as it must be -/
def Rs.Ok (r : Rs) : Prop := (r.2 = 0 → r.1.Is) ∧ (r.2 ≠ 0 → r.1 = .zero)
theorem no_ok {e : Int} (h : e ≠ 0) : Rs.Ok (no e) := ⟨fun h' => absurd h' h, fun _ => rfl⟩
theorem Val.truth_is (b : Bool) : (Val.truth b).Is := by unfold Val.truth; simp [Val.Is, empty]
theorem Val.whole_is (n : Int) : (Val.whole n).Is := by unfold Val.whole; simp [Val.Is, empty]
theorem Val.ofU_is (u : Uid) : (Val.ofU u).Is := by unfold Val.ofU; simp [Val.Is, empty]
theorem yes_ok (b : Bool) : Rs.Ok (yes b) := ⟨fun _ => Val.truth_is b, fun h => absurd rfl h⟩
theorem fitI_ok (n : Int) : Rs.Ok (fitI n) := by
 unfold fitI
 split
 ·exact ⟨fun _ => Val.whole_is n, fun h => absurd rfl h⟩
 ·exact no_ok (by decide)
theorem Val.can_zero (v : Val) (h : v.can.2 ≠ 0) : v.can.1 = .zero := by
 obtain ⟨k, bo, n, t, ut, ui, items, names⟩ := v
 unfold Val.can at h ⊢
 (repeat' split) <;> (try rfl) <;> (try (simp_all; done))
 rename_i h1 h2 h3 h4 h5 h6 h7 h8 h9
 rcases record_cases names (Val.cans items).1 with ⟨_, e⟩ | ⟨_, e⟩
 ·rw [e] at h; simp_all
 ·rw [e]
theorem Val.canon_okR (v : Val) : Rs.Ok v.canon := by
 unfold Val.canon
 split
 ·exact no_ok (by decide)
 ·exact ⟨fun h => Val.can_is h, fun h => Val.can_zero v h⟩
theorem someV_ok {r : Rs} {k : Int} (h : r.Ok) : (zeg r k).Ok := by
 unfold zeg
 split
 ·exact no_ok (by assumption)
 ·split
  ·exact no_ok (by decide)
  ·exact h
theorem someV_zero {r : Rs} {k : Int} (h : (zeg r k).2 = 0) : r.2 = 0 ∧ r.1.kind = k ∧ zeg r k = r := by
 unfold zeg at h ⊢
 split at h
 ·exact absurd h (by assumption)
 ·rename_i h1
  have h1 : r.2 = 0 := Decidable.byContradiction h1
  split at h
  ·cases h
  ·rename_i h2
   have h2 : r.1.kind = k := Decidable.byContradiction h2
   exact ⟨h1, h2, by rw [if_neg (by simp [h1]), if_neg (by simp [h2])]⟩
theorem Val.Is.items {v : Val} (h : v.Is) : ∀ x ∈ v.items, x.Is := by
 obtain ⟨k, bo, n, t, ut, ui, items, names⟩ := v
 simp only [Val.Is] at h
 rcases h with ⟨_, _, _, _, _, rfl, _⟩ | ⟨_, _, _, _, _, rfl, _⟩ | ⟨_, _, _, _, _, rfl, _⟩ | ⟨_, _, _, _, rfl, _⟩ | ⟨_, _, _, _, _, _, _, _, _, h⟩ | ⟨_, _, _, _, _, _, _, _, _, h⟩
 all_goals first | exact (Val.are_iff _).1 h | (intro x hx; cases hx)
theorem Val.find_lt {v : Val} {s : ByteArray} {i : Nat} (h : v.find s = some i) : i < v.items.length := by
 obtain ⟨k, bo, n, t, ut, ui, items, names⟩ := v
 simp only [Val.find] at h
 split at h
 ·obtain ⟨j, _, hj⟩ := Option.bind_eq_some_iff.1 h
  split at hj
  ·obtain rfl := Option.some.inj hj
   assumption
  ·cases hj
 ·cases h
theorem attrsV_is {c : List Ent} (hc : ∀ e ∈ c, e.av.Is) {v : Val} (hv : v.Is) (h : (zbl c v).2.1 = true) : (zbl c v).1.Is := by
 by_cases h6 : v.kind = 6
 ·have e : zbl c v = (v, true, 0) := by unfold zbl; rw [if_pos h6]
  rw [e]; exact hv
 ·by_cases h4 : v.kind = 4
  ·cases hi : idx (c.map Ent.uid) v.uid with
   | none =>
    have e : zbl c v = (.zero, false, 0) := by unfold zbl; rw [if_neg h6, if_pos h4]; simp only [hi]
    rw [e] at h; cases h
   | some i =>
    cases hx : c[i]? with
    | none =>
     have e : zbl c v = (.zero, false, 0) := by unfold zbl; rw [if_neg h6, if_pos h4]; simp only [hi, hx]
     rw [e] at h; cases h
    | some x =>
     have e : zbl c v = (x.av, true, 0) := by unfold zbl; rw [if_neg h6, if_pos h4]; simp only [hi, hx]
     rw [e]; exact hc x (List.mem_of_getElem? hx)
  ·have e : zbl c v = (.zero, false, 30) := by unfold zbl; rw [if_neg h6, if_neg h4]
   rw [e] at h; cases h
theorem attributeV_ok {c : List Ent} (hc : ∀ e ∈ c, e.av.Is) {op : Int} {name : ByteArray} {v : Val} (hv : v.Is) : (za3 c op name v).Ok := by
 unfold za3
 split
 ·exact no_ok (by assumption)
 ·split
  ·exact yes_ok _
  ·split
   ·exact no_ok (by decide)
   ·rename_i h
    have h : (zbl c v).2.1 = true := by simpa using h
    split
    ·exact no_ok (by decide)
    ·rename_i i hi
     have hl := Val.find_lt hi
     refine ⟨fun _ => ?_, fun h => absurd rfl h⟩
     rw [List.getElem?_eq_getElem hl]
     exact (attrsV_is hc hv h).items _ (List.getElem_mem hl)
theorem twoV_ok (c : List Ent) (op : Int) (a b : Val) : (twoV c op a b).Ok := by
 unfold twoV withinV setsV
 repeat' split
 all_goals first | exact yes_ok _ | exact fitI_ok _ | exact no_ok (by decide)
theorem oneV_ok {c : List Ent} (hc : ∀ e ∈ c, e.av.Is) {op : Int} {name : ByteArray} {a : Val} (ha : a.Is) : (oneV c op name a).Ok := by
 unfold oneV
 repeat' split
 all_goals first | exact attributeV_ok hc ha | exact yes_ok _ | exact fitI_ok _ | exact no_ok (by decide)
theorem varV_ok (q : Req) (name : ByteArray) : (varV q name).Ok := by
 unfold varV
 repeat' split
 all_goals first | exact ⟨fun _ => Val.ofU_is _, fun h => absurd rfl h⟩ | exact Val.canon_okR _ | exact no_ok (by decide)
theorem allV_is : ∀ {l : List Rs}, (∀ r ∈ l, r.Ok) → ∀ x ∈ (zda l).1, x.Is
 | [], _, x, hx => by simp [zda] at hx
 | r :: l, h, x, hx => by
  unfold zda at hx
  split at hx
  ·cases hx
  ·split at hx
   ·cases hx
   ·rename_i h1 h2
    rcases List.mem_cons.1 hx with rfl | hx
    ·exact (h r (by simp)).1 (Decidable.byContradiction h1)
    ·exact allV_is (fun r hr => h r (by simp [hr])) x hx
theorem allV_good : ∀ {l : List Rs}, (∀ r ∈ l, r.2 = 0) → zda l = (l.map Prod.fst, 0)
 | [], _ => rfl
 | r :: l, h => by
  unfold zda
  rw [if_neg (by simp [h r (by simp)]), allV_good (l := l) fun x hx => h x (by simp [hx])]
  simp
theorem allV_bad : ∀ {l : List Rs} {i : Nat} {r : Rs}, l[i]? = some r → r.2 ≠ 0 → (∀ j x, j < i → l[j]? = some x → x.2 = 0) → zda l = ([], r.2)
 | [], _, _, h, _, _ => by simp at h
 | x :: l, 0, r, h, h0, _ => by
  simp at h; subst h
  unfold zda
  rw [if_pos h0]
 | x :: l, i + 1, r, h, h0, hl => by
  have h1 := hl 0 x (by omega) rfl
  have h2 := allV_bad (l := l) (i := i) (r := r) (by simpa using h) h0 fun j y hj hy => hl (j + 1) y (by omega) (by simpa using hy)
  unfold zda
  rw [if_neg (by simp [h1]), h2, if_pos h0]
theorem choiceV_ok {op : Int} {a b d : Rs} (ha : a.Ok) (hb : b.Ok) (hd : d.Ok) : (zdp op a b d).Ok := by
 unfold zdp
 split
 ·exact no_ok (by assumption)
 ·rename_i h
  have h : (zeg a 1).2 = 0 := Decidable.byContradiction h
  split
  ·split
   ·exact hb
   ·exact hd
  ·split
   ·exact ⟨fun _ => ha.1 (someV_zero h).1, fun h => absurd rfl h⟩
   ·exact someV_ok hb
theorem evOp_ok {q : Req} {c : List Ent} (hc : ∀ e ∈ c, e.av.Is) {op : Int} {v : Val} {name : ByteArray} {names : List ByteArray} {rs : List Rs} (hr : ∀ r ∈ rs, r.Ok) : (evOp q c op v name names rs).Ok := by
 have hg : ∀ i : Nat, (rs[i]?.getD (no 1)).Ok := fun i => by
  cases h : rs[i]? with
  | none => exact no_ok (by decide)
  | some r => exact hr r (List.mem_of_getElem? h)
 unfold evOp
 split; · exact no_ok (by decide)
 split; · exact Val.canon_okR _
 split; · exact varV_ok _ _
 split; · exact no_ok (by decide)
 split; · exact choiceV_ok (hg 0) (hg 1) (hg 2)
 split; · exact no_ok (by assumption)
 split; · exact Val.canon_okR _
 split; · exact Val.canon_okR _
 split
 ·rename_i a ha
  exact oneV_ok hc (allV_is hr a (by rw [ha]; simp))
 ·exact twoV_ok _ _ _ _
 ·exact no_ok (by decide)
theorem Exp.ev_ok {q : Req} {c : List Ent} (hc : ∀ e ∈ c, e.av.Is) (n : Nat) : ∀ e : Exp, SizeOf.sizeOf e ≤ n → (e.ev q c).Ok := by
 induction n with
 | zero => intro e; cases e; simp
 | succ n ih =>
  intro e hn
  rw [Exp.ev_def]
  refine evOp_ok hc fun r hr => ?_
  obtain ⟨x, hx, rfl⟩ := List.mem_map.1 hr
  refine ih x ?_
  have := List.sizeOf_lt_of_mem hx
  obtain ⟨op, v, name, kids, names⟩ := e
  simp [Exp.kids] at *
  omega
end Go.Proofs.YtebfoimbdljbmaaGreatDoor
