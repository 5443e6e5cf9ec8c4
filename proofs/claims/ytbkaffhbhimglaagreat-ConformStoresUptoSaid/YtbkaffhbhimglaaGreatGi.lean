/-
  The reference's order of names, and where a name stands first. The conditions: the arguments lie in memory as they should.
-/
import Derived.Test.YtbkaffhbhimglaaGreatGd
import Derived.Test.YtbkaffhbhimglaaGreatGb
import Derived.Test.YtbkaffhbhimglaaGreatGf
namespace Go.Proofs.YtbkaffhbhimglaaGreat
open Go.RowKit
open Lib renaming hid → q_
set_option maxRecDepth 100000
set_option maxHeartbeats 800000
theorem order5_ok (a b : Uid) (w : World) (ha : FitU a) (hb : FitU b) : Calls Tryz.prog 66 #[valU a, valU b] w fun e w' => e = .returned (.int .i64 (ordU a b)) ∧ Ext w w' := by
 obtain ⟨t1, i1⟩ := a
 obtain ⟨t2, i2⟩ := b
 have HA := q_ ha
 have HB := q_ hb
 clear ha hb
 unfold valU ordU
 go_enter Tryz.func66, Tryz.ntmps66
 go_wp2_with fail
 obtain ⟨w1, hw1⟩ : ∃ w1, w1 = (w.alloc (.cells #[.string t1, .string i1] 43)).alloc (.cells #[.string t2, .string i2] 43) := ⟨_, rfl⟩
 rw [← hw1]
 have c1 : w1.cell? ⟨w.heap.size, 1, none⟩ = some (.string i1) := by rw [hw1]; go_simp
 have c3 : w1.cell? ⟨w.heap.size + 1, 1, none⟩ = some (.string i2) := by rw [hw1]; go_simp
 have hx : Ext w w1 := by rw [hw1]; exact ((Ext.refl w).alloc _).alloc _
 have HX := q_ hx
 have C1 := q_ c1
 have C3 := q_ c3
 clear hw1 hx c1 c3
 refine (zc9 t1 t2 _ HA.out.1 HB.out.1).mono ?_
 rintro e w2 ⟨rfl, hx2⟩
 have d1 : w2.cell? ⟨w.heap.size, 1, none⟩ = some (.string i1) := hx2.cell C1.out
 have d3 : w2.cell? ⟨w.heap.size + 1, 1, none⟩ = some (.string i2) := hx2.cell C3.out
 have HX2 := q_ hx2
 clear hx2
 by_cases h0 : cmpS t1 t2 = 0
 ·have e0 : (cmpS t1 t2 != 0) = false := by simp [h0]
  have H0 := q_ h0
  clear h0
  go_wp2_with fail
  refine (zc9 i1 i2 _ HA.out.2 HB.out.2).mono ?_
  rintro e w3 ⟨rfl, hx3⟩
  have HX3 := q_ hx3
  clear hx3
  go_wp2_with fail
  go_ret
  exact ⟨zag (by unfold zeb; rw [if_pos H0.out]), HX.out.trans (HX2.out.trans HX3.out)⟩
 ·have e0 : (cmpS t1 t2 != 0) = true := by simp [h0]
  have H0 := q_ h0
  clear h0
  go_wp2_with fail
  go_ret
  exact ⟨zag (by unfold zeb; rw [if_neg H0.out]), HX.out.trans HX2.out⟩
def findI (us : List Uid) (u : Uid) : Int := match idx us u with
 | some i => i
 | none => -1
theorem zdg {us : List Uid} {u : Uid} {i : Nat} (h : idx us u = some i) : findI us u = i := by simp [findI, h]
theorem findI_none {us : List Uid} {u : Uid} (h : idx us u = none) : findI us u = -1 := by simp [findI, h]
theorem idx_of_first {u : Uid} : ∀ {l : List Uid} {i : Nat}, l[i]? = some u → (∀ (j : Nat) (x : Uid), j < i → l[j]? = some x → x ≠ u) → idx l u = some i
 | [], _, h, _ => by simp at h
 | x :: r, 0, h, _ => by simp at h; subst h; simp [idx]
 | x :: r, i + 1, h, hj => by
  have hne : x ≠ u := hj 0 x (by omega) rfl
  simp only [idx, if_neg hne]
  rw [idx_of_first (l := r) (i := i) (by simpa using h) fun j y hji hy => hj (j + 1) y (by omega) (by simpa using hy)]
  rfl
theorem idx_of_none {u : Uid} {l : List Uid} (h : ∀ (j : Nat) (x : Uid), l[j]? = some x → x ≠ u) : idx l u = none := idx_none.2 fun hm => by
 obtain ⟨j, hj⟩ := List.mem_iff_getElem?.1 hm
 exact h j u hj rfl
theorem find5_ok (S : Nat → Prop) (l : List Ent) (v : Value) (u : Uid) (w : World) (hS : ∀ b, S b → b < w.heap.size) (hl : entR.RowsAt S w l v) :
  Calls Tryz.prog 34 #[v, valU u] w fun e w' => e = .returned (.int .i64 (findI (l.map Ent.uid) u)) ∧ Ext w w' := by
 obtain ⟨A, cap, rfl, ⟨hl0, hl1, hl2⟩, hlr⟩ := hl
 rw [zak] at hl0
 rw [zab] at hl2
 have HS := q_ hS
 have HL := q_ hlr
 clear hS hlr
 obtain ⟨t, i⟩ := u
 unfold valU
 go_enter Tryz.func34, Tryz.ntmps34
 go_wp2_with fail
 go_loopw [5] (fun i' wr => ∃ j : Nat, j ≤ l.length ∧ i' = .int .i64 j ∧ Hid (wr.heap[w.heap.size]? = some (.cells #[.string t, .string i] 43 (0, 0))) ∧ Hid (Ext w wr) ∧ Hid (∀ k x, k < j → l[k]? = some x → x.uid ≠ (t, i))) (fun i' _ => l.length - (intOf i').toNat)
 case atStart => exact ⟨0, Nat.zero_le _, rfl, q_ (heap_alloc_new _ _), q_ ((Ext.refl w).alloc _), q_ fun _ _ h => by omega⟩
 case round =>
  obtain ⟨j, hj, rfl, HB, HX, HA⟩ := hrel
  by_cases hlt : j < l.length
  ·obtain ⟨b, o, rfl, hSb, hrow⟩ := HL.out (by omega)
   obtain ⟨x, hx⟩ : ∃ x, l[j]? = some x := ⟨_, List.getElem?_eq_getElem hlt⟩
   obtain ⟨cs, hca, hxa⟩ := hrow j x hx
   obtain ⟨k0, k1, _, _, _, _⟩ := zcp (hca.alike hSb (Alike.of_ext HX.out HS.out)) (entR.alike hxa (Alike.of_ext HX.out HS.out))
   have c0 := cell_of_row _ _ 0 _ _ _ HB.out
   have c1 := cell_of_row _ _ 1 _ _ _ HB.out
   simp at c0 c1
   have Hx := q_ hx
   clear hx hca hxa hrow
   have r0 := zaa (show wr.cell? ⟨b, o + j * 11, none⟩ = _ from k0)
   have r1 := zaa (show wr.cell? ⟨b, o + j * 11 + 1, none⟩ = _ from k1)
   have r2 := zaa c0
   have r3 := zaa c1
   clear k0 k1 c0 c1
   obtain ⟨tb, htb⟩ : ∃ tb, decide (x.uid = (t, i)) = tb := ⟨_, rfl⟩
   have tq : ∀ w, (binOp .eql 43 (.agg #[.string x.uid.1, .string x.uid.2]) (.agg #[.string t, .string i])).run Tryz.prog w = .ok (.bool tb) w := fun w => by rw [← htb]; exact eqlU x.uid (t, i) w
   have tq' : ∀ w, (Op.equalIn 10000 43 (.agg #[.string x.uid.1, .string x.uid.2]) (.agg #[.string t, .string i])).run Tryz.prog w = .ok tb w := fun w => by rw [← htb]; exact zcr x.uid (t, i) w
   have tg : ∀ (p q : Operand) w, (eqGuard .eql 43 p q (.agg #[.string x.uid.1, .string x.uid.2]) (.agg #[.string t, .string i])).run Tryz.prog w = .ok () w := fun p q w => guardU _ p q x.uid (t, i) w
   have HT := q_ htb
   clear htb
   go_wp2_with fail
   refine zae (by kernel_rfl) (by kernel_rfl) ?_
   repeat (quiet_step (fail))
   refine wpQuiet_nil ?_
   intro w2 hw2
   have HX2 := q_ hw2
   clear tq tq' tg hw2 r0 r1 r2 r3
   cases tb with
   | true =>
    go_wp2_with fail
    go_ret
    have he : x.uid = (t, i) := of_decide_eq_true HT.out
    have hi : idx (l.map Ent.uid) (t, i) = some j := idx_of_first (by rw [List.getElem?_map, Hx.out]; simp [he]) fun k y hk hy => by
     rw [List.getElem?_map] at hy
     obtain ⟨z, hz, rfl⟩ := Option.map_eq_some_iff.1 hy
     exact HA.out k z hk hz
    exact ⟨zag (zdg hi).symm, HX.out.trans HX2.out⟩
   | false =>
    have he : x.uid ≠ (t, i) := of_decide_eq_false HT.out
    go_wp2_with fail
    go_roundw
    case rel => exact ⟨j + 1, by omega, by go_num, q_ ((HX2.out.block _ (zad HB.out)).trans HB.out), q_ (HX.out.trans HX2.out), q_ fun k y hk hy => by
     by_cases hkj : k = j
     ·subst hkj; rw [Hx.out] at hy; cases hy; exact he
     ·exact HA.out k y (by omega) hy⟩
    case measure => simp [intOf]; omega
  ·go_wp2_with fail
   go_ret
   have hi : idx (l.map Ent.uid) (t, i) = none := idx_of_none fun k y hy => by
    rw [List.getElem?_map] at hy
    obtain ⟨z, hz, rfl⟩ := Option.map_eq_some_iff.1 hy
    exact HA.out k z (by have := (List.getElem?_eq_some_iff.1 hz).1; omega) hz
   exact ⟨zag (findI_none hi).symm, HX.out⟩
end Go.Proofs.YtbkaffhbhimglaaGreat

/-
  Ways from number to number: what a table that is filled up holds, and that nothing is above itself just if there is no way round. No program in sight. The conditions: none (definitions and lemmas).
-/
namespace Go.Proofs.YtbkaffhbhimglaaGreat
section
variable (E : Nat → Nat → Prop)
def Via : Nat → Nat → Nat → Prop
 | 0, a, b => E a b
 | k + 1, a, b => Via k a b ∨ (Via k a k ∧ Via k k b)
variable {E}
theorem Via.step {k a b : Nat} (h : Via E k a b) : Via E (k + 1) a b := .inl h
theorem Via.le {k m a b : Nat} (h : Via E k a b) (hk : k ≤ m) : Via E m a b := by
 induction hk with
 | refl => exact h
 | step _ ih => exact ih.step
theorem Via.edge {m a b : Nat} (h : E a b) : Via E m a b := Via.le (k := 0) h (Nat.zero_le _)
theorem Via.trans : ∀ {k a b c : Nat}, c < k → Via E k a c → Via E k c b → Via E k a b
 | 0, _, _, _, h, _, _ => by omega
 | k + 1, a, b, c, hc, h1, h2 => by
  by_cases he : c = k
  ·subst he
   have p1 : Via E c a c := h1.elim id And.left
   have p2 : Via E c c b := h2.elim id And.right
   exact .inr ⟨p1, p2⟩
  ·have hlt : c < k := by omega
   rcases h1 with h1 | h1 <;> rcases h2 with h2 | h2
   ·exact .inl (Via.trans hlt h1 h2)
   ·exact .inr ⟨Via.trans hlt h1 h2.1, h2.2⟩
   ·exact .inr ⟨h1.1, Via.trans hlt h1.2 h2⟩
   ·exact .inr ⟨h1.1, h2.2⟩
theorem Via.last : ∀ {k a b : Nat}, Via E k a b → ∃ c, E c b ∧ (c = a ∨ Via E k a c)
 | 0, a, _, h => ⟨a, h, .inl rfl⟩
 | k + 1, a, b, h => by
  rcases h with h | ⟨h1, h2⟩
  ·obtain ⟨c, h3, h4⟩ := Via.last h
   exact ⟨c, h3, h4.imp id Via.step⟩
  ·obtain ⟨c, h3, h4⟩ := Via.last h2
   refine ⟨c, h3, .inr ?_⟩
   rcases h4 with rfl | h4
   ·exact .inl h1
   ·exact .inr ⟨h1, h4⟩
theorem Via.lt {n : Nat} (hE : ∀ a b, E a b → a < n ∧ b < n) : ∀ {k a b : Nat}, Via E k a b → a < n ∧ b < n
 | 0, _, _, h => hE _ _ h
 | k + 1, a, b, h => by
  rcases h with h | ⟨h1, h2⟩
  ·exact Via.lt hE h
  ·exact ⟨(Via.lt hE h1).1, (Via.lt hE h2).2⟩
theorem acc_of_open {n : Nat} (hE : ∀ a b, E a b → a < n ∧ b < n) (ho : ∀ i, i < n → ¬ Via E n i i) : ∀ i, i < n → Acc E i := by
 classical
 let L : Nat → List Nat := fun i => (List.range n).filter fun x => decide (Via E n x i)
 have hL : ∀ i x, x ∈ L i ↔ Via E n x i := fun i x => by
  simp only [L, List.mem_filter, List.mem_range, decide_eq_true_eq]
  exact ⟨fun h => h.2, fun h => ⟨(Via.lt hE h).1, h⟩⟩
 have hnd : ∀ i, (L i).Nodup := fun i => List.Nodup.sublist List.filter_sublist List.nodup_range
 have key : ∀ m i, (L i).length ≤ m → Acc E i := by
  intro m
  induction m with
  | zero =>
   intro i hm
   refine ⟨_, fun j hj => ?_⟩
   have : j ∈ L i := (hL i j).2 (Via.edge hj)
   have := List.length_pos_of_mem this
   omega
  | succ m ih =>
   intro i hm
   refine ⟨_, fun j hj => ih j ?_⟩
   have hjn := (hE j i hj).1
   have h1 : (j :: L j).Nodup := List.nodup_cons.2 ⟨fun h => ho j hjn ((hL j j).1 h), hnd j⟩
   have h2 := za6 (m := L i) h1 fun x hx => by
    rcases List.mem_cons.1 hx with rfl | hx
    ·exact (hL i x).2 (Via.edge hj)
    ·exact (hL i x).2 (Via.trans hjn ((hL j x).1 hx) (Via.edge hj))
   simp at h2; omega
 exact fun i _ => key _ i (Nat.le_refl _)
theorem not_acc_of_round {n i : Nat} (hE : ∀ a b, E a b → a < n ∧ b < n) (h : Via E n i i) : ¬ Acc E i := by
 refine not_acc_of (S := fun k => Via E n i k ∧ Via E n k i) (fun k hk => ?_) ⟨h, h⟩
 obtain ⟨c, h1, h2⟩ := hk.1.last
 have hkn := (Via.lt hE hk.1).2
 refine ⟨c, ⟨?_, Via.trans hkn (Via.edge h1) hk.2⟩, h1⟩
 rcases h2 with rfl | h2
 ·exact h
 ·exact h2
end
def EdgeN (l : List Ent) (i k : Nat) : Prop := k ∈ parN l i
theorem EdgeN.lt {l : List Ent} : ∀ a b, EdgeN l a b → a < l.length ∧ b < l.length := fun a b h => by
 refine ⟨?_, parN_lt h⟩
 unfold EdgeN parN at h
 split at h
 ·rename_i e he; exact (List.getElem?_eq_some_iff.1 he).1
 ·simp at h
theorem edge_acc {l : List Ent} {i : Nat} : Acc (EdgeN l) i ↔ Acc (fun i j => i < l.length ∧ j ∈ parN l i) i := by
 constructor <;> exact Acc.mono fun a b h => by first | exact ⟨(EdgeN.lt a b h).1, h⟩ | exact h.2
theorem rounded_via {l : List Ent} (hn : (l.map Ent.uid).Nodup) : Rounded l ↔ ∃ i, i < l.length ∧ Via (EdgeN l) l.length i i := by
 constructor
 ·rintro ⟨u, hu, ha⟩
  obtain ⟨f, hf, rfl⟩ := List.mem_map.1 hu
  obtain ⟨k, hk⟩ := List.mem_iff_getElem?.1 hf
  refine Classical.byContradiction fun hno => ha ?_
  have := acc_of_open (E := EdgeN l) (n := l.length) EdgeN.lt (fun i hi h => hno ⟨i, hi, h⟩) k (List.getElem?_eq_some_iff.1 hk).1
  exact (acc_iff hn hk).1 (edge_acc.1 this)
 ·rintro ⟨i, hi, h⟩
  have hk : l[i]? = some l[i] := List.getElem?_eq_getElem hi
  exact ⟨l[i].uid, List.mem_map.2 ⟨_, List.getElem_mem hi, rfl⟩, fun ha => not_acc_of_round EdgeN.lt h (edge_acc.2 ((acc_iff hn hk).2 ha))⟩
/-! ### a table that is filled up -/
section
variable {E : Nat → Nat → Prop} {n : Nat}
def Snd (E : Nat → Nat → Prop) (n : Nat) (t : Nat → Nat → Bool) : Prop := ∀ a b, a < n → b < n → t a b = true → Via E n a b
def Cpl (E : Nat → Nat → Prop) (n k : Nat) (t : Nat → Nat → Bool) : Prop := ∀ a b, a < n → b < n → Via E k a b → t a b = true
def setT (t : Nat → Nat → Bool) (i j : Nat) : Nat → Nat → Bool := fun a b => if a = i ∧ b = j then true else t a b
theorem setT_mono {t : Nat → Nat → Bool} {i j a b : Nat} (h : t a b = true) : setT t i j a b = true := by unfold setT; split <;> simp [h]
theorem setT_same {t : Nat → Nat → Bool} {i j : Nat} : setT t i j i j = true := by simp [setT]
theorem Snd.set {t : Nat → Nat → Bool} {i j : Nat} (h : Snd E n t) (hv : Via E n i j) : Snd E n (setT t i j) := fun a b ha hb hab => by
 unfold setT at hab
 split at hab
 ·rename_i he; obtain ⟨rfl, rfl⟩ := he; exact hv
 ·exact h a b ha hb hab
theorem Cpl.set {t : Nat → Nat → Bool} {k i j : Nat} (h : Cpl E n k t) : Cpl E n k (setT t i j) := fun a b ha hb hab => setT_mono (h a b ha hb hab)
def Edg (E : Nat → Nat → Prop) (i : Nat) (t : Nat → Nat → Bool) : Prop := ∀ a b, a < i → E a b → t a b = true
theorem Edg.set {t : Nat → Nat → Bool} {m i j : Nat} (h : Edg E m t) : Edg E m (setT t i j) := fun a b ha hab => setT_mono (h a b ha hab)
theorem Edg.cpl {t : Nat → Nat → Bool} (h : Edg E n t) : Cpl E n 0 t := fun a b ha _ hab => h a b ha hab
def Row (E : Nat → Nat → Prop) (n k i j : Nat) (t : Nat → Nat → Bool) : Prop := ∀ a b, a < n → b < n → (a < i ∨ (a = i ∧ b < j)) → Via E k a k → Via E k k b → t a b = true
theorem Row.set {t : Nat → Nat → Bool} {k i j p q : Nat} (h : Row E n k i j t) : Row E n k i j (setT t p q) := fun a b ha hb hab h1 h2 => setT_mono (h a b ha hb hab h1 h2)
theorem Row.zero {t : Nat → Nat → Bool} {k : Nat} : Row E n k 0 0 t := fun a b _ _ h => by omega
theorem Row.next {t : Nat → Nat → Bool} {k i : Nat} (h : Row E n k i n t) : Row E n k (i + 1) 0 t := fun a b ha hb hab h1 h2 => h a b ha hb (by omega) h1 h2
theorem Row.last {t : Nat → Nat → Bool} {k : Nat} (h : Row E n k n 0 t) (hc : Cpl E n k t) : Cpl E n (k + 1) t := fun a b ha hb hab => by
 rcases hab with hab | hab
 ·exact hc a b ha hb hab
 ·exact h a b ha hb (.inl ha) hab.1 hab.2
theorem Row.yes {t : Nat → Nat → Bool} {k i j : Nat} (h : Row E n k i j t) : Row E n k i (j + 1) (setT t i j) := fun a b ha hb hab h1 h2 => by
 unfold setT
 split
 ·rfl
 ·exact h a b ha hb (by omega) h1 h2
theorem Row.no {t : Nat → Nat → Bool} {k i j : Nat} (h : Row E n k i j t) (hc : Cpl E n k t) (hk : k < n) (hi : i < n) (hj : j < n) (hno : ¬ (t i k = true ∧ t k j = true)) : Row E n k i (j + 1) t := fun a b ha hb hab h1 h2 => by
 by_cases he : a = i ∧ b = j
 ·obtain ⟨rfl, rfl⟩ := he
  exact absurd ⟨hc a k hi hk h1, hc k b hk hj h2⟩ hno
 ·exact h a b ha hb (by omega) h1 h2
theorem full_iff {t : Nat → Nat → Bool} (hs : Snd E n t) (hc : Cpl E n n t) {a b : Nat} (ha : a < n) (hb : b < n) : t a b = true ↔ Via E n a b := ⟨hs a b ha hb, hc a b ha hb⟩
end
/-! ### a rising row with one more -/
def zec (u : Uid) : Bool → List Uid → List Uid
 | put, [] => if put then [] else [u]
 | put, x :: r => (if put = false ∧ 0 ≤ ordU x u then [u] else []) ++ (if x = u then [] else [x]) ++ zec u (put || decide (0 ≤ ordU x u)) r
theorem ordU_self (u : Uid) : ordU u u = 0 := (GoodAt.ordU u).refl
theorem putU_done {u : Uid} : ∀ {l : List Uid}, (∀ x ∈ l, x ≠ u) → zec u true l = l
 | [], _ => rfl
 | x :: r, h => by simp [zec, h x (by simp), putU_done (l := r) fun y hy => h y (by simp [hy])]
theorem putU_ins {u : Uid} : ∀ {l : List Uid}, zb0 ordU l → zec u false l = ins ordU u l
 | [], _ => rfl
 | x :: r, h => by
  obtain ⟨h1, h2⟩ := List.pairwise_cons.1 h
  have hr := (GoodAt.ordU x).range u
  unfold zec ins
  by_cases hm : ordU x u = -1
  ·have hne : x ≠ u := fun e => by subst e; rw [ordU_self] at hm; omega
   rw [if_neg (by omega), if_neg hne, if_pos hm, decide_eq_false (by omega)]
   simp [putU_ins h2]
  ·have hge : 0 ≤ ordU x u := by omega
   rw [if_pos ⟨rfl, hge⟩, if_neg hm, decide_eq_true hge]
   by_cases h0 : ordU x u = 0
   ·have := zeo h0
    subst this
    rw [if_pos rfl, if_pos h0]
    have : zec x true r = r := putU_done fun y hy e => by
     have := h1 y hy
     rw [e, ordU_self] at this; omega
    simp [this]
   ·have hne : x ≠ u := fun e => h0 (by rw [e]; exact ordU_self _)
    rw [if_neg hne, if_neg h0]
    have : zec u true r = r := putU_done fun y hy e => by
     subst e
     have := h1 y hy
     omega
    simp [this]
theorem sortU_snoc {α : Type} {c : α → α → Int} {l : List α} {x : α} : sortU c (l ++ [x]) = ins c x (sortU c l) := by simp [sortU]
theorem ins_here {l : List Ent} {x : Ent} {p : Nat} (hs : zb0 cmpE l) (hp : p ≤ l.length) (h1 : ∀ i y, i < p → l[i]? = some y → cmpE y x = -1) (h2 : ∀ y, l[p]? = some y → ¬ cmpE y x = -1) (hx : x.uid ∉ l.map Ent.uid) : ins cmpE x l = l.take p ++ x :: l.drop p := by
 have h3 : ∀ i y, p ≤ i → l[i]? = some y → ¬ cmpE y x = -1 := fun i y hi hy h => by
  by_cases he : i = p
  ·subst he; exact h2 y hy h
  ·obtain ⟨z, hz⟩ : ∃ z, l[p]? = some z := ⟨_, List.getElem?_eq_getElem (by have := (List.getElem?_eq_some_iff.1 hy).1; omega)⟩
   have hzy : cmpE z y = -1 := by
    have ha := (List.getElem?_eq_some_iff.1 hz)
    have hb := (List.getElem?_eq_some_iff.1 hy)
    have := List.pairwise_iff_getElem.1 hs p i ha.1 hb.1 (by omega)
    rwa [ha.2, hb.2] at this
   exact h2 z hz ((GoodAt.cmpE z).less y x hzy (by omega))
 rcases ins_at GoodAt.cmpE hs hp h1 h3 with h | h
 ·obtain ⟨⟨i, y, _, hy, h0⟩, _⟩ := h
  exact absurd (List.mem_map.2 ⟨y, List.mem_of_getElem? hy, zeo h0⟩) hx
 ·exact h.2
theorem sortE_uids {l : List Ent} {u : Uid} (h : u ∈ (sortU cmpE l).map Ent.uid) : u ∈ l.map Ent.uid := by
 obtain ⟨e, he, rfl⟩ := List.mem_map.1 h
 exact List.mem_map.2 ⟨e, zdz he, rfl⟩
theorem nodup_idx {us : List Uid} (h : ∀ i u, us[i]? = some u → idx us u = some i) : us.Nodup := by
 rw [List.Nodup, List.pairwise_iff_getElem]
 intro i j hi hj hij he
 have h1 := h i us[i] (List.getElem?_eq_getElem hi)
 have h2 := h j us[j] (List.getElem?_eq_getElem hj)
 rw [he, h2] at h1
 have := Option.some.inj h1
 omega
end Go.Proofs.YtbkaffhbhimglaaGreat

/-
  The reference's rising row of names with one more. The conditions: the row lies in memory as it should.
-/
namespace Go.Proofs.YtbkaffhbhimglaaGreat
open Go.RowKit
open Lib renaming hid → q_
set_option maxRecDepth 100000
set_option maxHeartbeats 1600000
theorem put5_ok (S : Nat → Prop) (l : List Uid) (v : Value) (u : Uid) (w : World) (hS : ∀ b, S b → b < w.heap.size) (hl : uidR.RowsAt S w l v) (hu : FitU u) (hlen : l.length ≤ 1048576) :
  Calls Tryz.prog 90 #[v, valU u] w fun e w' => ∃ v', e = .returned v' ∧ OwnL uidR 43 w.heap.size w' v' (zec u false l) ∧ Ext w w' := by
 obtain ⟨A, cap, rfl, ⟨hl0, hl1, hl2⟩, hlr⟩ := hl
 clear hl0
 rw [zab] at hl2
 have HS := q_ hS
 have HL := q_ hlr
 have HFu := q_ hu
 clear hS hlr hu
 obtain ⟨t, i⟩ := u
 obtain ⟨iu, hiu, uz0, uz1, uz2⟩ := info_parts zei
 unfold valU
 go_enter Tryz.func90, Tryz.ntmps90
 go_wp2_with fail
 go_loopw [5, 6, 7] (fun out put i' wr => ∃ (j : Nat) (q : Bool) (acc : List Uid), j ≤ l.length ∧ i' = .int .i64 j ∧ put = .bool q ∧ acc.length ≤ 2 * j + 1 ∧ Hid (OwnL uidR 43 (w.heap.size + 1) wr out acc) ∧
   Hid (wr.heap[w.heap.size]? = some (.cells #[.string t, .string i] 43 (0, 0))) ∧ Hid (Ext w wr) ∧ Hid (acc ++ zec (t, i) q (l.drop j) = zec (t, i) false l)) (fun _ _ i' _ => l.length - (intOf i').toNat)
 case atStart => exact ⟨0, false, [], Nat.zero_le _, rfl, rfl, by simp, q_ OwnL.nil, q_ (heap_alloc_new _ _), q_ ((Ext.refl w).alloc _), q_ (by simp)⟩
 case round =>
  obtain ⟨j, q, acc, hj, rfl, rfl, hacc, HO, HB, HX, HE⟩ := hrel
  by_cases hlt : j < l.length
  ·obtain ⟨b, o, rfl, hSb, hrow⟩ := HL.out (by omega)
   obtain ⟨x, hx⟩ : ∃ x, l[j]? = some x := ⟨_, List.getElem?_eq_getElem hlt⟩
   obtain ⟨cs, hca, rfl, hfx⟩ := hrow j x hx
   have hca' : CellsAt wr b (o + j * 2) _ := hca.alike hSb (Alike.of_ext HX.out HS.out)
   have k0 : wr.cell? ⟨b, o + j * 2, none⟩ = some (.string x.1) := hca' 0 _ rfl
   have k1 : wr.cell? ⟨b, o + j * 2 + 1, none⟩ = some (.string x.2) := hca' 1 _ rfl
   have HFx := q_ hfx
   have K0 := q_ (show w.cell? ⟨b, o + j * 2, none⟩ = some (.string x.1) from hca 0 _ rfl)
   have K1 := q_ (show w.cell? ⟨b, o + j * 2 + 1, none⟩ = some (.string x.2) from hca 1 _ rfl)
   have Hd := q_ (show l.drop j = x :: l.drop (j + 1) by
    obtain ⟨h1, h2⟩ := List.getElem?_eq_some_iff.1 hx
    rw [← h2]; exact (List.drop_eq_getElem_cons h1))
   clear hx hca hrow hfx hca'
   cases q with
   | true =>
    clear k0 k1
    go_wp2_with fail
    refine zae (by kernel_rfl) (by kernel_rfl) ?_
    repeat (go_big_quiet_step (fail))
    refine wpQuiet_nil ?_
    intro w2 hw2
    have HX2 := q_ (HX.out.trans hw2)
    have HO2 := q_ (HO.out.ext hw2)
    have HB2 := q_ ((hw2.block _ (zad HB.out)).trans HB.out)
    have HE2 : Hid (acc ++ (if x = (t, i) then [] else [x]) ++ zec (t, i) true (l.drop (j + 1)) = zec (t, i) false l) := q_ (by have h := HE.out; rw [Hd.out] at h; simpa [zec] using h)
    clear hw2 HX HO HB HE Hd
    have hr0 := zaa (show w2.cell? ⟨b, o + j * 2, none⟩ = some (.string x.1) from HX2.out.cell K0.out)
    have hr1 := zaa (show w2.cell? ⟨b, o + j * 2 + 1, none⟩ = some (.string x.2) from HX2.out.cell K1.out)
    have hb0 := cell_of_row _ _ 0 _ _ _ HB2.out
    have hb1 := cell_of_row _ _ 1 _ _ _ HB2.out
    simp at hb0 hb1
    have hr2 := zaa hb0
    have hr3 := zaa hb1
    clear hb0 hb1
    obtain ⟨tb, htb⟩ : ∃ tb, decide (x = (t, i)) = tb := ⟨_, rfl⟩
    have tq : ∀ w, (binOp .neq 43 (.agg #[.string x.1, .string x.2]) (.agg #[.string t, .string i])).run Tryz.prog w = .ok (.bool !tb) w := fun w => by rw [← htb]; exact neqU x (t, i) w
    have tq' : ∀ w, (Op.equalIn 10000 43 (.agg #[.string x.1, .string x.2]) (.agg #[.string t, .string i])).run Tryz.prog w = .ok tb w := fun w => by rw [← htb]; exact zcr x (t, i) w
    have tg : ∀ (p q : Operand) w, (eqGuard .neq 43 p q (.agg #[.string x.1, .string x.2]) (.agg #[.string t, .string i])).run Tryz.prog w = .ok () w := fun p q w => guardU _ p q x (t, i) w
    have HT := q_ htb
    clear htb
    go_wp2_with fail
    refine zae (by kernel_rfl) (by kernel_rfl) ?_
    repeat (quiet_step (fail))
    refine wpQuiet_nil ?_
    intro w3 hw3
    have HX3 := q_ hw3
    have HO3 := q_ (HO2.out.ext hw3)
    have HB3 := q_ ((hw3.block _ (zad HB2.out)).trans HB2.out)
    have d0 : w3.cell? ⟨b, o + j * 2, none⟩ = some (.string x.1) := (HX2.out.trans HX3.out).cell K0.out
    have d1 : w3.cell? ⟨b, o + j * 2 + 1, none⟩ = some (.string x.2) := (HX2.out.trans HX3.out).cell K1.out
    clear tq tq' tg hw3 hr0 hr1 hr2 hr3
    cases tb with
    | true =>
     have HE3 : Hid (acc ++ zec (t, i) true (l.drop (j + 1)) = zec (t, i) false l) := q_ (by have h := HE2.out; rw [if_pos (of_decide_eq_true HT.out)] at h; simpa using h)
     clear d0 d1
     go_wp2_with fail
     go_roundw
     case rel => exact ⟨j + 1, true, acc, by omega, by go_num, rfl, by omega, HO3, HB3, q_ (HX2.out.trans HX3.out), HE3⟩
     case measure => simp [intOf]; omega
    | false =>
     have HE3 : Hid ((acc ++ [x]) ++ zec (t, i) true (l.drop (j + 1)) = zec (t, i) false l) := q_ (by have h := HE2.out; rw [if_neg (of_decide_eq_false HT.out)] at h; simpa using h)
     go_wp2_with (at_builtin; refine zbh rfl (.tmp 35) (.tmp 40) 47 rfl uidR (w.heap.size + 1) 43 iu _ 32 Tryz.underlying47 hiu uz0 uz1 uz2 rfl u5 acc w3 43 x [.string x.1, .string x.2] rfl rfl HO3.out ⟨rfl, HFx.out⟩ (by rw [zab]; omega) (by omega) ?qb ?_)
     case qb => have := HX3.out.size; have := HX2.out.size; have := zad HB2.out; omega
     intro v' w4 hown' hgr'
     have hx4 : Ext w w4 := zas (HX2.out.trans HX3.out) hgr' fun b hb => by have := (HO3.out.lt b hb).1; omega
     have hb4 : w4.heap[w.heap.size]? = some (.cells #[.string t, .string i] 43 (0, 0)) := (hgr'.block _ (zad HB3.out) fun e => by have := (HO3.out.lt _ e.symm).1; omega).trans HB3.out
     have HO4 := q_ hown'
     have HX4 := q_ hx4
     have HB4 := q_ hb4
     clear hown' hx4 hb4 hgr' d0 d1
     go_wp2_with fail
     go_roundw
     case rel => exact ⟨j + 1, true, acc ++ [x], by omega, by go_num, rfl, by simp; omega, HO4, HB4, HX4, HE3⟩
     case measure => simp [intOf]; omega
   | false =>
    have c0 := cell_of_row _ _ 0 _ _ _ HB.out
    have c1 := cell_of_row _ _ 1 _ _ _ HB.out
    simp at c0 c1
    have r0 := zaa k0
    have r1 := zaa k1
    have r2 := zaa c0
    have r3 := zaa c1
    clear k0 k1 c0 c1
    by_cases hge : 0 ≤ ordU x (t, i)
    ·have hd : decide (0 ≤ ordU x (t, i)) = true := decide_eq_true hge
     go_wp2_with fail
     refine zae (by kernel_rfl) (by kernel_rfl) ?_
     repeat (go_big_quiet_step ((go_at_call 66; exact zan (fun w1 hw1 => order5_ok x (t, i) w1 HFx.out HFu.out) _ _)))
     refine wpQuiet_nil ?_
     intro w2 hw2
     have HX2 := q_ (HX.out.trans hw2)
     have HO2 := q_ (HO.out.ext hw2)
     have HB2 := q_ ((hw2.block _ (zad HB.out)).trans HB.out)
     have HE2 : Hid ((acc ++ [(t, i)]) ++ (if x = (t, i) then [] else [x]) ++ zec (t, i) true (l.drop (j + 1)) = zec (t, i) false l) := q_ (by have h := HE.out; rw [Hd.out] at h; simpa [zec, hge] using h)
     have b0 := cell_of_row _ _ 0 _ _ _ HB2.out
     have b1 := cell_of_row _ _ 1 _ _ _ HB2.out
     simp at b0 b1
     clear hw2 HX HO HB HE Hd hd r0 r1 r2 r3
     go_wp2_with (at_builtin; refine zbh rfl (.tmp 25) (.tmp 27) 47 rfl uidR (w.heap.size + 1) 43 iu _ 32 Tryz.underlying47 hiu uz0 uz1 uz2 rfl u5 acc w2 43 (t, i) [.string t, .string i] rfl rfl HO2.out ⟨rfl, HFu.out⟩ (by rw [zab]; omega) (by omega) ?qb ?_)
     case qb => have := zad HB2.out; omega
     intro out2 w22 hown' hgr'
     have hx4 : Ext w w22 := zas HX2.out hgr' fun b hb => by have := (HO2.out.lt b hb).1; omega
     have hb4 : w22.heap[w.heap.size]? = some (.cells #[.string t, .string i] 43 (0, 0)) := (hgr'.block _ (zad HB2.out) fun e => by have := (HO2.out.lt _ e.symm).1; omega).trans HB2.out
     have HO4 := q_ hown'
     have HX4 := q_ hx4
     have HB4 := q_ hb4
     have hl4 : (acc ++ [(t, i)]).length ≤ 2 * j + 2 := by simp; omega
     generalize acc ++ [(t, i)] = acc2 at HO4 HE2 hl4
     clear hown' hx4 hb4 hgr' b0 b1 HO2 HX2 HB2 hacc
     have HO2 := HO4
     have HX2 := HX4
     have HB2 := HB4
     clear HO4 HX4 HB4
     have hr0 := zaa (show w22.cell? ⟨b, o + j * 2, none⟩ = some (.string x.1) from HX2.out.cell K0.out)
     have hr1 := zaa (show w22.cell? ⟨b, o + j * 2 + 1, none⟩ = some (.string x.2) from HX2.out.cell K1.out)
     have hb0 := cell_of_row _ _ 0 _ _ _ HB2.out
     have hb1 := cell_of_row _ _ 1 _ _ _ HB2.out
     simp at hb0 hb1
     have hr2 := zaa hb0
     have hr3 := zaa hb1
     clear hb0 hb1
     obtain ⟨tb, htb⟩ : ∃ tb, decide (x = (t, i)) = tb := ⟨_, rfl⟩
     have tq : ∀ w, (binOp .neq 43 (.agg #[.string x.1, .string x.2]) (.agg #[.string t, .string i])).run Tryz.prog w = .ok (.bool !tb) w := fun w => by rw [← htb]; exact neqU x (t, i) w
     have tq' : ∀ w, (Op.equalIn 10000 43 (.agg #[.string x.1, .string x.2]) (.agg #[.string t, .string i])).run Tryz.prog w = .ok tb w := fun w => by rw [← htb]; exact zcr x (t, i) w
     have tg : ∀ (p q : Operand) w, (eqGuard .neq 43 p q (.agg #[.string x.1, .string x.2]) (.agg #[.string t, .string i])).run Tryz.prog w = .ok () w := fun p q w => guardU _ p q x (t, i) w
     have HT := q_ htb
     clear htb
     go_wp2_with fail
     refine zae (by kernel_rfl) (by kernel_rfl) ?_
     repeat (quiet_step (fail))
     refine wpQuiet_nil ?_
     intro w3 hw3
     have HX3 := q_ hw3
     have HO3 := q_ (HO2.out.ext hw3)
     have HB3 := q_ ((hw3.block _ (zad HB2.out)).trans HB2.out)
     have d0 : w3.cell? ⟨b, o + j * 2, none⟩ = some (.string x.1) := (HX2.out.trans HX3.out).cell K0.out
     have d1 : w3.cell? ⟨b, o + j * 2 + 1, none⟩ = some (.string x.2) := (HX2.out.trans HX3.out).cell K1.out
     clear tq tq' tg hw3 hr0 hr1 hr2 hr3
     cases tb with
     | true =>
      have HE3 : Hid (acc2 ++ zec (t, i) true (l.drop (j + 1)) = zec (t, i) false l) := q_ (by have h := HE2.out; rw [if_pos (of_decide_eq_true HT.out)] at h; simpa using h)
      clear d0 d1
      go_wp2_with fail
      go_roundw
      case rel => exact ⟨j + 1, true, acc2, by omega, by go_num, rfl, by omega, HO3, HB3, q_ (HX2.out.trans HX3.out), HE3⟩
      case measure => simp [intOf]; omega
     | false =>
      have HE3 : Hid ((acc2 ++ [x]) ++ zec (t, i) true (l.drop (j + 1)) = zec (t, i) false l) := q_ (by have h := HE2.out; rw [if_neg (of_decide_eq_false HT.out)] at h; simpa using h)
      go_wp2_with (at_builtin; refine zbh rfl (.tmp 35) (.tmp 40) 47 rfl uidR (w.heap.size + 1) 43 iu _ 32 Tryz.underlying47 hiu uz0 uz1 uz2 rfl out2 acc2 w3 43 x [.string x.1, .string x.2] rfl rfl HO3.out ⟨rfl, HFx.out⟩ (by rw [zab]; omega) (by omega) ?qb ?_)
      case qb => have := HX3.out.size; have := HX2.out.size; have := zad HB2.out; omega
      intro v' w4 hown' hgr'
      have hx4 : Ext w w4 := zas (HX2.out.trans HX3.out) hgr' fun b hb => by have := (HO3.out.lt b hb).1; omega
      have hb4 : w4.heap[w.heap.size]? = some (.cells #[.string t, .string i] 43 (0, 0)) := (hgr'.block _ (zad HB3.out) fun e => by have := (HO3.out.lt _ e.symm).1; omega).trans HB3.out
      have HO4 := q_ hown'
      have HX4 := q_ hx4
      have HB4 := q_ hb4
      clear hown' hx4 hb4 hgr' d0 d1
      go_wp2_with fail
      go_roundw
      case rel => exact ⟨j + 1, true, acc2 ++ [x], by omega, by go_num, rfl, by simp; omega, HO4, HB4, HX4, HE3⟩
      case measure => simp [intOf]; omega
    ·have hd : decide (0 ≤ ordU x (t, i)) = false := decide_eq_false hge
     go_wp2_with fail
     refine zae (by kernel_rfl) (by kernel_rfl) ?_
     repeat (go_big_quiet_step ((go_at_call 66; exact zan (fun w1 hw1 => order5_ok x (t, i) w1 HFx.out HFu.out) _ _)))
     refine wpQuiet_nil ?_
     intro w2 hw2
     have HX2 := q_ (HX.out.trans hw2)
     have HO2 := q_ (HO.out.ext hw2)
     have HB2 := q_ ((hw2.block _ (zad HB.out)).trans HB.out)
     have HE2 : Hid (acc ++ (if x = (t, i) then [] else [x]) ++ zec (t, i) false (l.drop (j + 1)) = zec (t, i) false l) := q_ (by
      have h := HE.out
      rw [Hd.out] at h
      simp only [zec, hd] at h
      rw [if_neg (fun e => absurd e.2 (by omega))] at h
      simpa using h)
     clear hw2 HX HO HB HE Hd hd r0 r1 r2 r3
     have hr0 := zaa (show w2.cell? ⟨b, o + j * 2, none⟩ = some (.string x.1) from HX2.out.cell K0.out)
     have hr1 := zaa (show w2.cell? ⟨b, o + j * 2 + 1, none⟩ = some (.string x.2) from HX2.out.cell K1.out)
     have hb0 := cell_of_row _ _ 0 _ _ _ HB2.out
     have hb1 := cell_of_row _ _ 1 _ _ _ HB2.out
     simp at hb0 hb1
     have hr2 := zaa hb0
     have hr3 := zaa hb1
     clear hb0 hb1
     obtain ⟨tb, htb⟩ : ∃ tb, decide (x = (t, i)) = tb := ⟨_, rfl⟩
     have tq : ∀ w, (binOp .neq 43 (.agg #[.string x.1, .string x.2]) (.agg #[.string t, .string i])).run Tryz.prog w = .ok (.bool !tb) w := fun w => by rw [← htb]; exact neqU x (t, i) w
     have tq' : ∀ w, (Op.equalIn 10000 43 (.agg #[.string x.1, .string x.2]) (.agg #[.string t, .string i])).run Tryz.prog w = .ok tb w := fun w => by rw [← htb]; exact zcr x (t, i) w
     have tg : ∀ (p q : Operand) w, (eqGuard .neq 43 p q (.agg #[.string x.1, .string x.2]) (.agg #[.string t, .string i])).run Tryz.prog w = .ok () w := fun p q w => guardU _ p q x (t, i) w
     have HT := q_ htb
     clear htb
     go_wp2_with fail
     refine zae (by kernel_rfl) (by kernel_rfl) ?_
     repeat (quiet_step (fail))
     refine wpQuiet_nil ?_
     intro w3 hw3
     have HX3 := q_ hw3
     have HO3 := q_ (HO2.out.ext hw3)
     have HB3 := q_ ((hw3.block _ (zad HB2.out)).trans HB2.out)
     have d0 : w3.cell? ⟨b, o + j * 2, none⟩ = some (.string x.1) := (HX2.out.trans HX3.out).cell K0.out
     have d1 : w3.cell? ⟨b, o + j * 2 + 1, none⟩ = some (.string x.2) := (HX2.out.trans HX3.out).cell K1.out
     clear tq tq' tg hw3 hr0 hr1 hr2 hr3
     cases tb with
     | true =>
      have HE3 : Hid (acc ++ zec (t, i) false (l.drop (j + 1)) = zec (t, i) false l) := q_ (by have h := HE2.out; rw [if_pos (of_decide_eq_true HT.out)] at h; simpa using h)
      clear d0 d1
      go_wp2_with fail
      go_roundw
      case rel => exact ⟨j + 1, false, acc, by omega, by go_num, rfl, by omega, HO3, HB3, q_ (HX2.out.trans HX3.out), HE3⟩
      case measure => simp [intOf]; omega
     | false =>
      have HE3 : Hid ((acc ++ [x]) ++ zec (t, i) false (l.drop (j + 1)) = zec (t, i) false l) := q_ (by have h := HE2.out; rw [if_neg (of_decide_eq_false HT.out)] at h; simpa using h)
      go_wp2_with (at_builtin; refine zbh rfl (.tmp 35) (.tmp 40) 47 rfl uidR (w.heap.size + 1) 43 iu _ 32 Tryz.underlying47 hiu uz0 uz1 uz2 rfl u5 acc w3 43 x [.string x.1, .string x.2] rfl rfl HO3.out ⟨rfl, HFx.out⟩ (by rw [zab]; omega) (by omega) ?qb ?_)
      case qb => have := HX3.out.size; have := HX2.out.size; have := zad HB2.out; omega
      intro v' w4 hown' hgr'
      have hx4 : Ext w w4 := zas (HX2.out.trans HX3.out) hgr' fun b hb => by have := (HO3.out.lt b hb).1; omega
      have hb4 : w4.heap[w.heap.size]? = some (.cells #[.string t, .string i] 43 (0, 0)) := (hgr'.block _ (zad HB3.out) fun e => by have := (HO3.out.lt _ e.symm).1; omega).trans HB3.out
      have HO4 := q_ hown'
      have HX4 := q_ hx4
      have HB4 := q_ hb4
      clear hown' hx4 hb4 hgr' d0 d1
      go_wp2_with fail
      go_roundw
      case rel => exact ⟨j + 1, false, acc ++ [x], by omega, by go_num, rfl, by simp; omega, HO4, HB4, HX4, HE3⟩
      case measure => simp [intOf]; omega
  ·have hje : l.drop j = [] := List.drop_eq_nil_of_le (by omega)
   have Hje := q_ hje
   clear hje
   cases q with
   | true =>
    have HE2 : Hid (zec (t, i) false l = acc) := q_ (by have h := HE.out; rw [Hje.out] at h; simpa [zec] using h.symm)
    go_wp2_with fail
    go_ret
    exact ⟨_, rfl, by rw [HE2.out]; exact HO.out.low (Nat.le_succ _), HX.out⟩
   | false =>
    have HE2 : Hid (zec (t, i) false l = acc ++ [(t, i)]) := q_ (by have h := HE.out; rw [Hje.out] at h; simpa [zec] using h.symm)
    have b0 := cell_of_row _ _ 0 _ _ _ HB.out
    have b1 := cell_of_row _ _ 1 _ _ _ HB.out
    simp at b0 b1
    go_wp2_with (at_builtin; refine zbh rfl (.tmp 44) (.tmp 46) 47 rfl uidR (w.heap.size + 1) 43 iu _ 32 Tryz.underlying47 hiu uz0 uz1 uz2 rfl u5 acc wr 43 (t, i) [.string t, .string i] rfl rfl HO.out ⟨rfl, HFu.out⟩ (by rw [zab]; omega) (by omega) ?qb ?_)
    case qb => have := zad HB.out; omega
    intro v' w4 hown' hgr'
    have hx4 : Ext w w4 := zas HX.out hgr' fun b hb => by have := (HO.out.lt b hb).1; omega
    have HO4 := q_ hown'
    have HX4 := q_ hx4
    clear hown' hx4 hgr' b0 b1
    go_wp2_with fail
    go_ret
    exact ⟨_, rfl, by rw [HE2.out]; exact HO4.out.low (Nat.le_succ _), HX4.out⟩
end Go.Proofs.YtbkaffhbhimglaaGreat

/-
  The reference's table of what ways lead to: what it holds at the end. The conditions: the entities lie in memory as they should, and are few.
-/
namespace Go.Proofs.YtbkaffhbhimglaaGreat
open Go.RowKit
open Lib renaming hid → q_
set_option maxRecDepth 100000
set_option maxHeartbeats 4000000
def TabAt (w : World) (g n : Nat) (t : Nat → Nat → Bool) : Prop :=
 ∃ cur, w.heap[g]? = some (.cells cur 4 (0, 0)) ∧ cur.size = n * n ∧ ∀ i j, i < n → j < n → cur[i * n + j]? = some (.bool (t i j))
theorem sq_lt {n i j : Nat} (hi : i < n) (hj : j < n) : i * n + j < n * n := by
 have h1 : (i + 1) * n ≤ n * n := Nat.mul_le_mul_right _ hi
 rw [Nat.succ_mul] at h1
 omega
theorem sq_inj {n i j a b : Nat} (hj : j < n) (hb : b < n) (h : a * n + b = i * n + j) : a = i ∧ b = j := by
 have hn : 0 < n := by omega
 have h1 : (a * n + b) / n = a := by rw [Nat.mul_comm, Nat.mul_add_div hn, Nat.div_eq_of_lt hb, Nat.add_zero]
 have h2 : (i * n + j) / n = i := by rw [Nat.mul_comm, Nat.mul_add_div hn, Nat.div_eq_of_lt hj, Nat.add_zero]
 have h3 : a = i := by rw [← h1, h, h2]
 subst h3
 exact ⟨rfl, by omega⟩
theorem TabAt.cell {w : World} {g n : Nat} {t : Nat → Nat → Bool} (h : TabAt w g n t) {i j : Nat} (hi : i < n) (hj : j < n) : w.cell? ⟨g, i * n + j, none⟩ = some (.bool (t i j)) := by
 obtain ⟨cur, h1, h2, h3⟩ := h
 rw [cell_of_row _ _ _ _ _ _ h1]
 exact h3 i j hi hj
theorem TabAt.free {w : World} {g n : Nat} {t : Nat → Nat → Bool} (h : TabAt w g n t) (k : Nat) : w.frozen? ⟨g, k, none⟩ = false := by
 obtain ⟨cur, h1, _⟩ := h
 exact frozen_of_row _ _ _ _ _ h1
theorem TabAt.lt {w : World} {g n : Nat} {t : Nat → Nat → Bool} (h : TabAt w g n t) : g < w.heap.size := by
 obtain ⟨cur, h1, _⟩ := h
 exact zad h1
theorem TabAt.ext {w w' : World} {g n : Nat} {t : Nat → Nat → Bool} (h : TabAt w g n t) (k : Ext w w') : TabAt w' g n t := by
 obtain ⟨cur, h1, h2⟩ := h
 exact ⟨cur, (k.block _ (zad h1)).trans h1, h2⟩
theorem TabAt.set {w : World} {g n : Nat} {t : Nat → Nat → Bool} (h : TabAt w g n t) {i j : Nat} (_hi : i < n) (hj : j < n) : TabAt (w.setCell ⟨g, i * n + j, none⟩ (.bool true)) g n (setT t i j) := by
 obtain ⟨cur, h1, h2, h3⟩ := h
 refine ⟨_, zbm h1 _ _, by simpa using h2, fun a b ha hb => ?_⟩
 rw [Array.getElem?_setIfInBounds]
 unfold setT
 by_cases he : a = i ∧ b = j
 ·obtain ⟨rfl, rfl⟩ := he
  rw [if_pos rfl, if_pos (by rw [h2]; exact sq_lt ha hb), if_pos ⟨rfl, rfl⟩]
 ·rw [if_neg (fun e => he (sq_inj hj hb e.symm)), if_neg he]
  exact h3 a b ha hb
theorem TabAt.made (w : World) (n : Nat) : TabAt (w.alloc (.cells (madeCells #[.bool false] (n * n)) 4)) w.heap.size n fun _ _ => false := by
 refine ⟨_, heap_alloc_new _ _, by simp [madeCells], fun i j hi hj => ?_⟩
 have h := sq_lt hi hj
 simp [madeCells, h, Nat.mod_one]
theorem Tryz.infoB : (Tryz.prog.info? 4).map (fun i => (i.zero, i.size, i.bytes)) = some (some (.bool false), 1, 1) := by kernel_rfl
def RowE (l : List Ent) (i q : Nat) (x : Ent) (t : Nat → Nat → Bool) : Prop := ∀ (j : Nat) (u : Uid) (p : Nat), j < q → x.ps[j]? = some u → idx (l.map Ent.uid) u = some p → t i p = true
theorem RowE.edg {l : List Ent} {i : Nat} {x : Ent} {t : Nat → Nat → Bool} (hx : l[i]? = some x) (h : RowE l i x.ps.length x t) (k : Edg (EdgeN l) i t) : Edg (EdgeN l) (i + 1) t := fun a b ha hab => by
 by_cases he : a = i
 ·subst he
  have hab : b ∈ parN l a := hab
  rw [parN_of hx, List.mem_filterMap] at hab
  obtain ⟨u, hu, hi⟩ := hab
  obtain ⟨j, hj⟩ := List.mem_iff_getElem?.1 hu
  exact h j u b (List.getElem?_eq_some_iff.1 hj).1 hj hi
 ·exact k a b (by omega) hab
theorem RowE.edge {l : List Ent} {i q p : Nat} {x : Ent} {u : Uid} (hx : l[i]? = some x) (hu : x.ps[q]? = some u) (hp : idx (l.map Ent.uid) u = some p) : EdgeN l i p := by
 show p ∈ parN l i
 rw [parN_of hx, List.mem_filterMap]
 exact ⟨u, List.mem_of_getElem? hu, hp⟩
def Fill1 (l : List Ent) (g i : Nat) (w : World) : Prop := ∃ t, TabAt w g l.length t ∧ Snd (EdgeN l) l.length t ∧ Edg (EdgeN l) i t
def Fill2 (l : List Ent) (g i q : Nat) (x : Ent) (w : World) : Prop := ∃ t, TabAt w g l.length t ∧ Snd (EdgeN l) l.length t ∧ Edg (EdgeN l) i t ∧ RowE l i q x t
def Fill3 (l : List Ent) (g k : Nat) (w : World) : Prop := ∃ t, TabAt w g l.length t ∧ Snd (EdgeN l) l.length t ∧ Cpl (EdgeN l) l.length k t
def Fill4 (l : List Ent) (g k i j : Nat) (w : World) : Prop := ∃ t, TabAt w g l.length t ∧ Snd (EdgeN l) l.length t ∧ Cpl (EdgeN l) l.length k t ∧ Row (EdgeN l) l.length k i j t
theorem RowE.set {l : List Ent} {i q a b : Nat} {x : Ent} {t : Nat → Nat → Bool} (h : RowE l i q x t) : RowE l i q x (setT t a b) := fun j u p h1 h2 h3 => setT_mono (h j u p h1 h2 h3)
theorem Fill2.not {l : List Ent} {g i q : Nat} {x : Ent} {w : World} {y : Uid} (h : Fill2 l g i q x w) (hy : x.ps[q]? = some y) (hf : idx (l.map Ent.uid) y = none) : Fill2 l g i (q + 1) x w := by
 obtain ⟨t, h1, h2, h3, h4⟩ := h
 refine ⟨t, h1, h2, h3, fun j u p hj hu hp => ?_⟩
 by_cases he : j = q
 ·subst he; rw [hy] at hu; cases hu; rw [hf] at hp; cases hp
 ·exact h4 j u p (by omega) hu hp
theorem Fill2.one {l : List Ent} {g i q p : Nat} {x : Ent} {w : World} {y : Uid} (hx : l[i]? = some x) (h : Fill2 l g i q x w) (hy : x.ps[q]? = some y) (hf : idx (l.map Ent.uid) y = some p) (hi : i < l.length) (hp : p < l.length) : Fill2 l g i (q + 1) x (w.setCell ⟨g, i * l.length + p, none⟩ (.bool true)) := by
 obtain ⟨t, h1, h2, h3, h4⟩ := h
 refine ⟨_, h1.set hi hp, h2.set (Via.edge (RowE.edge hx hy hf)), h3.set, fun j u p' hj hu hp' => ?_⟩
 by_cases he : j = q
 ·subst he; rw [hy] at hu; cases hu; rw [hf] at hp'; cases hp'; exact setT_same
 ·exact h4.set j u p' (by omega) hu hp'
theorem Fill2.ext {l : List Ent} {g i q : Nat} {x : Ent} {w w' : World} (h : Fill2 l g i q x w) (k : Ext w w') : Fill2 l g i q x w' := by
 obtain ⟨t, h1, h2⟩ := h
 exact ⟨t, h1.ext k, h2⟩
theorem Fill4.yes {l : List Ent} {g k i j : Nat} {w : World} {t : Nat → Nat → Bool} (h1 : TabAt w g l.length t) (h2 : Snd (EdgeN l) l.length t) (h3 : Cpl (EdgeN l) l.length k t) (h4 : Row (EdgeN l) l.length k i j t) (hk : k < l.length) (hi : i < l.length) (hj : j < l.length) (ht1 : t i k = true) (ht2 : t k j = true) : Fill4 l g k i (j + 1) (w.setCell ⟨g, i * l.length + j, none⟩ (.bool true)) :=
 ⟨_, h1.set hi hj, h2.set (Via.trans hk (h2 i k hi hk ht1) (h2 k j hk hj ht2)), h3.set, h4.yes⟩
theorem above5_ok (S : Nat → Prop) (l : List Ent) (v : Value) (w : World) (hS : ∀ b, S b → b < w.heap.size) (hl : entR.RowsAt S w l v) (h20 : l.length ≤ 1000) :
  Calls Tryz.prog 92 #[v] w fun e w' => ∃ g, e = .returned (.slice (some ⟨g, 0, none⟩) (l.length * l.length) (l.length * l.length)) ∧ w.heap.size ≤ g ∧ Fill3 l g l.length w' ∧ Ext w w' := by
 have hl' := hl
 obtain ⟨A, cap, rfl, ⟨hl0, hl1, hl2⟩, hlr⟩ := hl
 clear hl0
 rw [zab] at hl2
 have HS := q_ hS
 have HL := q_ hlr
 have HL' := q_ hl'
 clear hS hlr hl'
 obtain ⟨i0, hi0, hz0, hz1, hz2⟩ := info_parts Tryz.infoB
 obtain ⟨nn, hnn⟩ : ∃ nn, l.length * l.length = nn := ⟨_, rfl⟩
 have hnn2 : nn ≤ 1000 * 1000 := by rw [← hnn]; exact Nat.mul_le_mul h20 h20
 have e0 : (l.length : Int) * (l.length : Int) = (nn : Int) := by rw [← hnn]; simp
 rw [hnn]
 have Hnn := q_ hnn
 clear hnn
 go_enter Tryz.func92, Tryz.ntmps92
 go_wp2_with (at_make; refine wpList_make_row _ rfl _ _ 127 rfl 4 i0 (.bool false) Tryz.underlying127 hi0 hz0 hz1 rfl .i64 .i64 nn rfl rfl (by rw [hz2]; omega) (by omega) ?_)
 go_loopw [5] (fun i' wr => ∃ i : Nat, i ≤ l.length ∧ i' = .int .i64 i ∧ Hid (Fill1 l w.heap.size i wr) ∧ Hid (Ext w wr)) (fun i' _ => l.length - (intOf i').toNat)
 case atStart => exact ⟨0, Nat.zero_le _, rfl, q_ ⟨fun _ _ => false, by have h := TabAt.made w l.length; rwa [Hnn.out] at h, (fun a b _ _ h => nomatch h), fun a b h => by omega⟩, q_ ((Ext.refl w).alloc _)⟩
 case round =>
  obtain ⟨i, hi, rfl, HF, HX⟩ := hrel
  by_cases hlt : i < l.length
  ·obtain ⟨b, o, rfl, hSb, hrow⟩ := HL.out (by omega)
   obtain ⟨x, hx⟩ : ∃ x, l[i]? = some x := ⟨_, List.getElem?_eq_getElem hlt⟩
   obtain ⟨cs, hca, hxa⟩ := hrow i x hx
   obtain ⟨_, _, _, _, ⟨pv, k2, hpv⟩, _⟩ := zcp hca hxa
   obtain ⟨A1, c1, rfl, ⟨p0, p1, p2⟩, hpr⟩ := hpv
   rw [zak] at p0
   rw [zab] at p2
   have Hx := q_ hx
   have Hlt := q_ hlt
   have K2 := q_ (show w.cell? ⟨b, o + i * 11 + 2, none⟩ = _ from k2)
   have HPr := q_ hpr
   clear hx hca hxa hrow k2 hpr
   go_wp2_with fail
   obtain ⟨wo, hwo⟩ : ∃ wo : World, wo = wr := ⟨_, rfl⟩
   subst hwo
   go_loopw [6] (fun q' wr => ∃ q : Nat, q ≤ x.ps.length ∧ q' = .int .i64 q ∧ Hid (Fill2 l w.heap.size i q x wr) ∧ Hid (Ext w wr)) (fun q' _ => x.ps.length - (intOf q').toNat)
   case atStart => exact ⟨0, Nat.zero_le _, rfl, q_ (by obtain ⟨t, h1, h2, h3⟩ := HF.out; exact ⟨t, h1, h2, h3, fun j u p h => by omega⟩), HX⟩
   case round =>
    clear HF HX
    obtain ⟨q, hq, rfl, HF, HX⟩ := hrel
    have k2 := HX.out.cell K2.out
    by_cases hqt : q < x.ps.length
    ·obtain ⟨b2, o2, rfl, hSb2, hrow2⟩ := HPr.out (by omega)
     obtain ⟨y, hy⟩ : ∃ y, x.ps[q]? = some y := ⟨_, List.getElem?_eq_getElem hqt⟩
     obtain ⟨cs2, hca2, rfl, hfy⟩ := hrow2 q y hy
     have c0 : wr.cell? ⟨b2, o2 + q * 2, none⟩ = some (.string y.1) := HX.out.cell (hca2 0 _ rfl)
     have c1' : wr.cell? ⟨b2, o2 + q * 2 + 1, none⟩ = some (.string y.2) := HX.out.cell (hca2 1 _ rfl)
     have Hy := q_ hy
     clear hy hca2 hrow2 hfy
     go_wp2_with fail
     refine (find5_ok S l _ y wr (fun b hb => Nat.lt_of_lt_of_le (HS.out b hb) HX.out.size) (HL'.out.alike (Alike.of_ext HX.out HS.out))).mono ?_
     rintro e w3 ⟨rfl, hx3⟩
     have HF3 := q_ (HF.out.ext hx3)
     have HX3 := q_ (HX.out.trans hx3)
     clear hx3 HF HX c0 c1' k2
     cases hf : idx (l.map Ent.uid) y with
     | none =>
      rw [findI_none hf]
      have HF4 := q_ (HF3.out.not Hy.out hf)
      clear hf
      go_wp2_with fail
      go_roundw
      case rel => exact ⟨q + 1, by omega, by go_num, HF4, HX3⟩
      case measure => simp [intOf]; omega
     | some p =>
      rw [zdg hf]
      have hp : p < l.length := by have := idx_lt hf; simpa using this
      obtain ⟨m, hm⟩ : ∃ m, i * l.length = m := ⟨_, rfl⟩
      have hmp : m + p < nn := by rw [← hm, ← Hnn.out]; exact sq_lt Hlt.out hp
      have e1 : (i : Int) * (l.length : Int) = (m : Int) := by rw [← hm]; simp
      have HF4 := Fill2.one Hx.out HF3.out Hy.out hf Hlt.out hp
      rw [hm] at HF4
      have HF4 := q_ HF4
      obtain ⟨t, ht, _⟩ := HF3.out
      have d1 := ht.cell Hlt.out hp
      rw [hm] at d1
      have d2 := ht.free (m + p)
      have d3 := ht.lt
      have q1 : ((m : Int) + (p : Int)).toNat = m + p := by omega
      clear hf hm ht
      go_wp2_with fail
      go_roundw
      case rel => exact ⟨q + 1, by omega, by go_num, HF4, q_ (zas HX3.out (GrownBy.setCell w3 w.heap.size (m + p) _) fun b hb => by injection hb with hb; omega)⟩
      case measure => simp [intOf]; omega
    ·have hqe : q = x.ps.length := by omega
     subst hqe
     have HF4 : Hid (Fill1 l w.heap.size (i + 1) wr) := q_ (by obtain ⟨t, h1, h2, h3, h4⟩ := HF.out; exact ⟨t, h1, h2, h4.edg Hx.out h3⟩)
     clear HF
     go_wp2_with fail
     go_roundw
     case rel => exact ⟨i + 1, by have := Hlt.out; omega, by go_num, HF4, HX⟩
     case measure => have := Hlt.out; simp [intOf]; omega
  ·have HF0 : Hid (Fill3 l w.heap.size 0 wr) := q_ (by obtain ⟨t, h1, h2, h3⟩ := HF.out; rw [show i = l.length by omega] at h3; exact ⟨t, h1, h2, h3.cpl⟩)
   clear HF
   go_wp2_with fail
   obtain ⟨wo, hwo⟩ : ∃ wo : World, wo = wr := ⟨_, rfl⟩
   subst hwo
   go_loopw [8] (fun k' wr => ∃ k : Nat, k ≤ l.length ∧ k' = .int .i64 k ∧ Hid (Fill3 l w.heap.size k wr) ∧ Hid (Ext w wr)) (fun k' _ => l.length - (intOf k').toNat)
   case atStart => exact ⟨0, Nat.zero_le _, rfl, HF0, HX⟩
   case round =>
    clear HF0 HX
    obtain ⟨k, hk, rfl, HF, HX⟩ := hrel
    by_cases hkt : k < l.length
    ·have Hkt := q_ hkt
     go_wp2_with fail
     obtain ⟨wo2, hwo⟩ : ∃ wo2 : World, wo2 = wr := ⟨_, rfl⟩
     subst hwo
     go_loopw [9] (fun i' wr => ∃ i : Nat, i ≤ l.length ∧ i' = .int .i64 i ∧ Hid (Fill4 l w.heap.size k i 0 wr) ∧ Hid (Ext w wr)) (fun i' _ => l.length - (intOf i').toNat)
     case atStart => exact ⟨0, Nat.zero_le _, rfl, q_ (by obtain ⟨t, h1, h2, h3⟩ := HF.out; exact ⟨t, h1, h2, h3, Row.zero⟩), HX⟩
     case round =>
      clear HF HX
      obtain ⟨i, hi, rfl, HF, HX⟩ := hrel
      by_cases hit : i < l.length
      ·have Hit := q_ hit
       go_wp2_with fail
       obtain ⟨wo3, hwo⟩ : ∃ wo3 : World, wo3 = wr := ⟨_, rfl⟩
       subst hwo
       go_loopw [10] (fun j' wr => ∃ j : Nat, j ≤ l.length ∧ j' = .int .i64 j ∧ Hid (Fill4 l w.heap.size k i j wr) ∧ Hid (Ext w wr)) (fun j' _ => l.length - (intOf j').toNat)
       case atStart => exact ⟨0, Nat.zero_le _, rfl, HF, HX⟩
       case round =>
        clear HF HX
        obtain ⟨j, hj, rfl, HF, HX⟩ := hrel
        by_cases hjt : j < l.length
        ·obtain ⟨m, hm⟩ : ∃ m, i * l.length = m := ⟨_, rfl⟩
         obtain ⟨m2, hm2⟩ : ∃ m2, k * l.length = m2 := ⟨_, rfl⟩
         have h1 : m + k < nn := by rw [← hm, ← Hnn.out]; exact sq_lt Hit.out Hkt.out
         have h2 : m2 + j < nn := by rw [← hm2, ← Hnn.out]; exact sq_lt Hkt.out hjt
         have h3 : m + j < nn := by rw [← hm, ← Hnn.out]; exact sq_lt Hit.out hjt
         have e1 : (i : Int) * (l.length : Int) = (m : Int) := by rw [← hm]; simp
         have e2 : (k : Int) * (l.length : Int) = (m2 : Int) := by rw [← hm2]; simp
         have q1 : ((m : Int) + (k : Int)).toNat = m + k := by omega
         have q2 : ((m2 : Int) + (j : Int)).toNat = m2 + j := by omega
         have q3 : ((m : Int) + (j : Int)).toNat = m + j := by omega
         obtain ⟨t, ht, hs, hc, hr⟩ := HF.out
         have c1 := ht.cell Hit.out Hkt.out
         have c2 := ht.cell Hkt.out hjt
         have c3 := ht.cell Hit.out hjt
         rw [hm] at c1 c3
         rw [hm2] at c2
         have c4 := ht.free (m + j)
         have c5 := ht.lt
         cases hb1 : t i k with
         | false =>
          rw [hb1] at c1
          have HF4 : Hid (Fill4 l w.heap.size k i (j + 1) wr) := q_ ⟨t, ht, hs, hc, hr.no hc Hkt.out Hit.out hjt fun h => by rw [hb1] at h; cases h.1⟩
          clear hb1 ht hs hc hr hm hm2 HF c2 c3 c4 c5
          go_wp2_with fail
          go_roundw
          case rel => exact ⟨j + 1, by omega, by go_num, HF4, HX⟩
          case measure => simp [intOf]; omega
         | true =>
          rw [hb1] at c1
          cases hb2 : t k j with
          | false =>
           rw [hb2] at c2
           have HF4 : Hid (Fill4 l w.heap.size k i (j + 1) wr) := q_ ⟨t, ht, hs, hc, hr.no hc Hkt.out Hit.out hjt fun h => by rw [hb2] at h; cases h.2⟩
           clear hb1 hb2 ht hs hc hr hm hm2 HF c3 c4 c5
           go_wp2_with fail
           go_roundw
           case rel => exact ⟨j + 1, by omega, by go_num, HF4, HX⟩
           case measure => simp [intOf]; omega
          | true =>
           rw [hb2] at c2
           have hf4 := Fill4.yes ht hs hc hr Hkt.out Hit.out hjt hb1 hb2
           rw [hm] at hf4
           have HF4 := q_ hf4
           clear hb1 hb2 ht hs hc hr hm hm2 HF hf4
           go_wp2_with fail
           go_roundw
           case rel => exact ⟨j + 1, by omega, by go_num, HF4, q_ (zas HX.out (GrownBy.setCell wr w.heap.size (m + j) _) fun b hb => by injection hb with hb; omega)⟩
           case measure => simp [intOf]; omega
        ·have HF4 : Hid (Fill4 l w.heap.size k (i + 1) 0 wr) := q_ (by obtain ⟨t, h1, h2, h3, h4⟩ := HF.out; rw [show j = l.length by omega] at h4; exact ⟨t, h1, h2, h3, h4.next⟩)
         clear HF
         go_wp2_with fail
         go_roundw
         case rel => exact ⟨i + 1, by have := Hit.out; omega, by go_num, HF4, HX⟩
         case measure => have := Hit.out; simp [intOf]; omega
      ·have HF4 : Hid (Fill3 l w.heap.size (k + 1) wr) := q_ (by obtain ⟨t, h1, h2, h3, h4⟩ := HF.out; rw [show i = l.length by omega] at h4; exact ⟨t, h1, h2, h4.last h3⟩)
       clear HF
       go_wp2_with fail
       go_roundw
       case rel => exact ⟨k + 1, by have := Hkt.out; omega, by go_num, HF4, HX⟩
       case measure => have := Hkt.out; simp [intOf]; omega
    ·have HF4 : Hid (Fill3 l w.heap.size l.length wr) := q_ (by have h := HF.out; rwa [show k = l.length by omega] at h)
     clear HF
     go_wp2_with fail
     go_ret
     exact ⟨_, rfl, Nat.le_refl _, HF4.out, HX.out⟩
end Go.Proofs.YtbkaffhbhimglaaGreat

/-
  The reference's Round: whether some are above themselves. The conditions: the entities lie in memory as they should, are few, and no name is there twice.
-/
namespace Go.Proofs.YtbkaffhbhimglaaGreat
open Go.RowKit
open Lib renaming hid → q_
set_option maxRecDepth 100000
set_option maxHeartbeats 1600000
theorem round5_ok (S : Nat → Prop) (l : List Ent) (v : Value) (w : World) (hS : ∀ b, S b → b < w.heap.size) (hl : entR.RowsAt S w l v) (h20 : l.length ≤ 1000) (hn : (l.map Ent.uid).Nodup) :
  Calls Tryz.prog 67 #[v] w fun e w' => ∃ r : Bool, e = .returned (.bool r) ∧ (r = true ↔ Rounded l) ∧ Ext w w' := by
 have hl' := hl
 obtain ⟨A, cap, rfl, ⟨hl0, hl1, hl2⟩, hlr⟩ := hl
 clear hl0
 rw [zab] at hl2
 obtain ⟨nn, hnn⟩ : ∃ nn, l.length * l.length = nn := ⟨_, rfl⟩
 have hnn2 : nn ≤ 1000 * 1000 := by rw [← hnn]; exact Nat.mul_le_mul h20 h20
 have hA := above5_ok S l _ w hS hl' h20
 simp only [hnn] at hA
 have HA := q_ hA
 have HS := q_ hS
 have HL := q_ hlr
 have HL' := q_ hl'
 have HN := q_ hn
 have Hnn := q_ hnn
 clear hS hlr hl' hnn hn hA
 go_enter Tryz.func67, Tryz.ntmps67
 go_wp2_with fail
 refine HA.out.mono ?_
 rintro e w1 ⟨g, rfl, hg, hF, hx1⟩
 have HF := q_ hF
 have HX1 := q_ hx1
 clear hF hx1 HA
 go_wp2_with fail
 go_loopw [4] (fun i' wr => ∃ i : Nat, i ≤ l.length ∧ i' = .int .i64 i ∧ Hid (Ext w1 wr) ∧ Hid (∀ a, a < i → ¬ Via (EdgeN l) l.length a a)) (fun i' _ => l.length - (intOf i').toNat)
 case atStart => exact ⟨0, Nat.zero_le _, rfl, q_ (Ext.refl _), q_ fun _ h => by omega⟩
 case round =>
  obtain ⟨i, hi, rfl, HX, HV⟩ := hrel
  by_cases hlt : i < l.length
  ·obtain ⟨b, o, rfl, hSb, hrow⟩ := HL.out (by omega)
   obtain ⟨x, hx⟩ : ∃ x, l[i]? = some x := ⟨_, List.getElem?_eq_getElem hlt⟩
   obtain ⟨cs, hca, hxa⟩ := hrow i x hx
   obtain ⟨k0, k1, _⟩ := zcp hca hxa
   have HXw := q_ (HX1.out.trans HX.out)
   have c0 : wr.cell? ⟨b, o + i * 11, none⟩ = some (.string x.uid.1) := HXw.out.cell k0
   have c1 : wr.cell? ⟨b, o + i * 11 + 1, none⟩ = some (.string x.uid.2) := HXw.out.cell k1
   have hix : idx (l.map Ent.uid) x.uid = some i := za4 HN.out (by rw [List.getElem?_map, hx]; rfl)
   have Hlt := q_ hlt
   have Hix := q_ hix
   clear hx hca hxa hrow k0 k1 hix
   go_wp2_with fail
   refine (find5_ok S l _ x.uid wr (fun b hb => Nat.lt_of_lt_of_le (HS.out b hb) HXw.out.size) (HL'.out.alike (Alike.of_ext HXw.out HS.out))).mono ?_
   rintro e w3 ⟨rfl, hx3⟩
   rw [zdg Hix.out]
   have HX3 := q_ (HX.out.trans hx3)
   obtain ⟨m, hm⟩ : ∃ m, i * l.length = m := ⟨_, rfl⟩
   have hmp : m + i < nn := by rw [← hm, ← Hnn.out]; exact sq_lt Hlt.out Hlt.out
   have e1 : (i : Int) * (l.length : Int) = (m : Int) := by rw [← hm]; simp
   have q1 : ((m : Int) + (i : Int)).toNat = m + i := by omega
   obtain ⟨t, ht, hs, hc⟩ := HF.out
   have d1 := (ht.ext HX3.out).cell Hlt.out Hlt.out
   rw [hm] at d1
   have HIff := q_ (full_iff hs hc Hlt.out Hlt.out)
   generalize t i i = tb at *
   clear ht hs hc hx3 hm c0 c1
   cases tb with
   | true =>
    go_wp2_with fail
    go_ret
    exact ⟨true, rfl, ⟨fun _ => (rounded_via HN.out).2 ⟨i, Hlt.out, by simpa using HIff.out⟩, fun _ => rfl⟩, HX1.out.trans HX3.out⟩
   | false =>
    go_wp2_with fail
    go_roundw
    case rel => exact ⟨i + 1, by have := Hlt.out; omega, by go_num, HX3, q_ fun a ha hv => by
     by_cases he : a = i
     ·subst he; have h := HIff.out; simp at h; exact h hv
     ·exact HV.out a (by omega) hv⟩
    case measure => have := Hlt.out; simp [intOf]; omega
  ·go_wp2_with fail
   go_ret
   refine ⟨false, rfl, ⟨fun h => (nomatch h), fun h => ?_⟩, HX1.out.trans HX.out⟩
   obtain ⟨a, ha, hv⟩ := (rounded_via HN.out).1 h
   exact absurd hv (HV.out a (by omega))
end Go.Proofs.YtbkaffhbhimglaaGreat
