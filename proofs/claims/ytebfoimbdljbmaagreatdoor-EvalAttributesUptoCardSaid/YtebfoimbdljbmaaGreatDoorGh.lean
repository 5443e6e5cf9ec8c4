/-
  The reference's order of names, and where a name stands first. The conditions: the arguments lie in memory as they should.
-/
import Derived.Test.YtebfoimbdljbmaaGreatDoorGd
import Derived.Test.YtebfoimbdljbmaaGreatDoorGb
import Derived.Test.YtebfoimbdljbmaaGreatDoorGf
import Derived.Test.YtebfoimbdljbmaaGreatDoorGk
namespace Go.Proofs.YtebfoimbdljbmaaGreatDoor
open Go.RowKit
open Lib renaming hid → q_
set_option maxRecDepth 100000
set_option maxHeartbeats 800000
theorem order5_ok (a b : Uid) (w : World) (ha : FitU a) (hb : FitU b) : Calls Tryz.prog 40 #[zeu a, zeu b] w fun e w' => e = .returned (.int .i64 (ordU a b)) ∧ Ext w w' := by
 obtain ⟨t1, i1⟩ := a
 obtain ⟨t2, i2⟩ := b
 have HA := q_ ha
 have HB := q_ hb
 clear ha hb
 unfold zeu ordU
 go_enter Tryz.func40, Tryz.ntmps40
 go_wp2_with fail
 obtain ⟨w1, hw1⟩ : ∃ w1, w1 = (w.alloc (.cells #[.string t1, .string i1] 23)).alloc (.cells #[.string t2, .string i2] 23) := ⟨_, rfl⟩
 rw [← hw1]
 have c1 : w1.cell? ⟨w.heap.size, 1, none⟩ = some (.string i1) := by rw [hw1]; go_simp
 have c3 : w1.cell? ⟨w.heap.size + 1, 1, none⟩ = some (.string i2) := by rw [hw1]; go_simp
 have hx : Ext w w1 := by rw [hw1]; exact ((Ext.refl w).alloc _).alloc _
 have HX := q_ hx
 have C1 := q_ c1
 have C3 := q_ c3
 clear hw1 hx c1 c3
 refine (zes t1 t2 _ HA.out.1 HB.out.1).mono ?_
 rintro e w2 ⟨rfl, hx2⟩
 have d1 : w2.cell? ⟨w.heap.size, 1, none⟩ = some (.string i1) := hx2.cell C1.out
 have d3 : w2.cell? ⟨w.heap.size + 1, 1, none⟩ = some (.string i2) := hx2.cell C3.out
 have HX2 := q_ hx2
 clear hx2
 by_cases h0 : cmpS t1 t2 = 0
 ·have e0 : (cmpS t1 t2 != 0) = false := by simp [h0]
  have H0 := q_ h0
  clear h0
  go_wp2_with fail
  refine (zes i1 i2 _ HA.out.2 HB.out.2).mono ?_
  rintro e w3 ⟨rfl, hx3⟩
  have HX3 := q_ hx3
  clear hx3
  go_wp2_with fail
  go_ret
  exact ⟨zan (by unfold ze4; rw [if_pos H0.out]), HX.out.trans (HX2.out.trans HX3.out)⟩
 ·have e0 : (cmpS t1 t2 != 0) = true := by simp [h0]
  have H0 := q_ h0
  clear h0
  go_wp2_with fail
  go_ret
  exact ⟨zan (by unfold ze4; rw [if_neg H0.out]), HX.out.trans HX2.out⟩
def findI (us : List Uid) (u : Uid) : Int := match idx us u with
 | some i => i
 | none => -1
theorem zdf {us : List Uid} {u : Uid} {i : Nat} (h : idx us u = some i) : findI us u = i := by simp [findI, h]
theorem ze8 {us : List Uid} {u : Uid} (h : idx us u = none) : findI us u = -1 := by simp [findI, h]
theorem idx_of_first {u : Uid} : ∀ {l : List Uid} {i : Nat}, l[i]? = some u → (∀ (j : Nat) (x : Uid), j < i → l[j]? = some x → x ≠ u) → idx l u = some i
 | [], _, h, _ => by simp at h
 | x :: r, 0, h, _ => by simp at h; subst h; simp [idx]
 | x :: r, i + 1, h, hj => by
  have hne : x ≠ u := hj 0 x (by omega) rfl
  simp only [idx, if_neg hne]
  rw [idx_of_first (l := r) (i := i) (by simpa using h) fun j y hji hy => hj (j + 1) y (by omega) (by simpa using hy)]
  rfl
theorem idx_of_none {u : Uid} {l : List Uid} (h : ∀ (j : Nat) (x : Uid), l[j]? = some x → x ≠ u) : idx l u = none := zfj.2 fun hm => by
 obtain ⟨j, hj⟩ := List.mem_iff_getElem?.1 hm
 exact h j u hj rfl
theorem find5_ok (S : Nat → Prop) (l : List Ent) (v : Value) (u : Uid) (w : World) (hS : ∀ b, S b → b < w.heap.size) (hl : entR.RowsAt S w l v) :
  Calls Tryz.prog 38 #[v, zeu u] w fun e w' => e = .returned (.int .i64 (findI (l.map Ent.uid) u)) ∧ Ext w w' := by
 obtain ⟨A, cap, rfl, ⟨hl0, hl1, hl2⟩, hlr⟩ := hl
 rw [zaq] at hl0
 rw [zaj] at hl2
 have HS := q_ hS
 have HL := q_ hlr
 clear hS hlr
 obtain ⟨t, i⟩ := u
 unfold zeu
 go_enter Tryz.func38, Tryz.ntmps38
 go_wp2_with fail
 go_loopw [5] (fun i' wr => ∃ j : Nat, j ≤ l.length ∧ i' = .int .i64 j ∧ Hid (wr.heap[w.heap.size]? = some (.cells #[.string t, .string i] 23 (0, 0))) ∧ Hid (Ext w wr) ∧ Hid (∀ k x, k < j → l[k]? = some x → x.uid ≠ (t, i))) (fun i' _ => l.length - (intOf i').toNat)
 case atStart => exact ⟨0, Nat.zero_le _, rfl, q_ (heap_alloc_new _ _), q_ ((Ext.refl w).alloc _), q_ fun _ _ h => by omega⟩
 case round =>
  obtain ⟨j, hj, rfl, HB, HX, HA⟩ := hrel
  by_cases hlt : j < l.length
  ·obtain ⟨b, o, rfl, hSb, hrow⟩ := HL.out (by omega)
   obtain ⟨x, hx⟩ : ∃ x, l[j]? = some x := ⟨_, List.getElem?_eq_getElem hlt⟩
   obtain ⟨cs, hca, hxa⟩ := hrow j x hx
   obtain ⟨k0, k1, _, _, _, _⟩ := zd6 (hca.alike hSb (Alike.of_ext HX.out HS.out)) (entR.alike hxa (Alike.of_ext HX.out HS.out))
   have c0 := cell_of_row _ _ 0 _ _ _ HB.out
   have c1 := cell_of_row _ _ 1 _ _ _ HB.out
   simp at c0 c1
   have Hx := q_ hx
   clear hx hca hxa hrow
   have r0 := zac (show wr.cell? ⟨b, o + j * 11, none⟩ = _ from k0)
   have r1 := zac (show wr.cell? ⟨b, o + j * 11 + 1, none⟩ = _ from k1)
   have r2 := zac c0
   have r3 := zac c1
   clear k0 k1 c0 c1
   obtain ⟨tb, htb⟩ : ∃ tb, decide (x.uid = (t, i)) = tb := ⟨_, rfl⟩
   have tq : ∀ w, (binOp .eql 23 (.agg #[.string x.uid.1, .string x.uid.2]) (.agg #[.string t, .string i])).run Tryz.prog w = .ok (.bool tb) w := fun w => by rw [← htb]; exact eqlU x.uid (t, i) w
   have tq' : ∀ w, (Op.equalIn 10000 23 (.agg #[.string x.uid.1, .string x.uid.2]) (.agg #[.string t, .string i])).run Tryz.prog w = .ok tb w := fun w => by rw [← htb]; exact eqlU_in x.uid (t, i) w
   have tg : ∀ (p q : Operand) w, (eqGuard .eql 23 p q (.agg #[.string x.uid.1, .string x.uid.2]) (.agg #[.string t, .string i])).run Tryz.prog w = .ok () w := fun p q w => guardU _ p q x.uid (t, i) w
   have HT := q_ htb
   clear htb
   go_wp2_with fail
   refine zax (by kernel_rfl) (by kernel_rfl) ?_
   repeat (quiet_step (fail))
   refine wpQuiet_nil ?_
   intro w2 hw2
   have HX2 := q_ hw2
   clear tq tq' tg hw2 r0 r1 r2 r3
   cases tb with
   | true =>
    go_wp2_with fail
    go_ret
    have he : x.uid = (t, i) := of_decide_eq_true HT.out
    have hi : idx (l.map Ent.uid) (t, i) = some j := idx_of_first (by rw [List.getElem?_map, Hx.out]; simp [he]) fun k y hk hy => by
     rw [List.getElem?_map] at hy
     obtain ⟨z, hz, rfl⟩ := Option.map_eq_some_iff.1 hy
     exact HA.out k z hk hz
    exact ⟨zan (zdf hi).symm, HX.out.trans HX2.out⟩
   | false =>
    have he : x.uid ≠ (t, i) := of_decide_eq_false HT.out
    go_wp2_with fail
    go_roundw
    case rel => exact ⟨j + 1, by omega, by go_num, q_ ((HX2.out.block _ (zaf HB.out)).trans HB.out), q_ (HX.out.trans HX2.out), q_ fun k y hk hy => by
     by_cases hkj : k = j
     ·subst hkj; rw [Hx.out] at hy; cases hy; exact he
     ·exact HA.out k y (by omega) hy⟩
    case measure => simp [intOf]; omega
  ·go_wp2_with fail
   go_ret
   have hi : idx (l.map Ent.uid) (t, i) = none := idx_of_none fun k y hy => by
    rw [List.getElem?_map] at hy
    obtain ⟨z, hz, rfl⟩ := Option.map_eq_some_iff.1 hy
    exact HA.out k z (by have := (List.getElem?_eq_some_iff.1 hz).1; omega) hz
   exact ⟨zan (ze8 hi).symm, HX.out⟩
end Go.Proofs.YtebfoimbdljbmaaGreatDoor

/-
  Ways from number to number: what a table that is filled up holds, and that nothing is above itself just if there is no way round. No program in sight. The conditions: none (definitions and lemmas).
-/
namespace Go.Proofs.YtebfoimbdljbmaaGreatDoor
section
variable (E : Nat → Nat → Prop)
def Via : Nat → Nat → Nat → Prop
 | 0, a, b => E a b
 | k + 1, a, b => Via k a b ∨ (Via k a k ∧ Via k k b)
variable {E}
theorem Via.step {k a b : Nat} (h : Via E k a b) : Via E (k + 1) a b := .inl h
theorem Via.le {k m a b : Nat} (h : Via E k a b) (hk : k ≤ m) : Via E m a b := by
 induction hk with
 | refl => exact h
 | step _ ih => exact ih.step
theorem Via.edge {m a b : Nat} (h : E a b) : Via E m a b := Via.le (k := 0) h (Nat.zero_le _)
theorem Via.trans : ∀ {k a b c : Nat}, c < k → Via E k a c → Via E k c b → Via E k a b
 | 0, _, _, _, h, _, _ => by omega
 | k + 1, a, b, c, hc, h1, h2 => by
  by_cases he : c = k
  ·subst he
   have p1 : Via E c a c := h1.elim id And.left
   have p2 : Via E c c b := h2.elim id And.right
   exact .inr ⟨p1, p2⟩
  ·have hlt : c < k := by omega
   rcases h1 with h1 | h1 <;> rcases h2 with h2 | h2
   ·exact .inl (Via.trans hlt h1 h2)
   ·exact .inr ⟨Via.trans hlt h1 h2.1, h2.2⟩
   ·exact .inr ⟨h1.1, Via.trans hlt h1.2 h2⟩
   ·exact .inr ⟨h1.1, h2.2⟩
theorem Via.last : ∀ {k a b : Nat}, Via E k a b → ∃ c, E c b ∧ (c = a ∨ Via E k a c)
 | 0, a, _, h => ⟨a, h, .inl rfl⟩
 | k + 1, a, b, h => by
  rcases h with h | ⟨h1, h2⟩
  ·obtain ⟨c, h3, h4⟩ := Via.last h
   exact ⟨c, h3, h4.imp id Via.step⟩
  ·obtain ⟨c, h3, h4⟩ := Via.last h2
   refine ⟨c, h3, .inr ?_⟩
   rcases h4 with rfl | h4
   ·exact .inl h1
   ·exact .inr ⟨h1, h4⟩
theorem Via.lt {n : Nat} (hE : ∀ a b, E a b → a < n ∧ b < n) : ∀ {k a b : Nat}, Via E k a b → a < n ∧ b < n
 | 0, _, _, h => hE _ _ h
 | k + 1, a, b, h => by
  rcases h with h | ⟨h1, h2⟩
  ·exact Via.lt hE h
  ·exact ⟨(Via.lt hE h1).1, (Via.lt hE h2).2⟩
theorem acc_of_open {n : Nat} (hE : ∀ a b, E a b → a < n ∧ b < n) (ho : ∀ i, i < n → ¬ Via E n i i) : ∀ i, i < n → Acc E i := by
 classical
 let L : Nat → List Nat := fun i => (List.range n).filter fun x => decide (Via E n x i)
 have hL : ∀ i x, x ∈ L i ↔ Via E n x i := fun i x => by
  simp only [L, List.mem_filter, List.mem_range, decide_eq_true_eq]
  exact ⟨fun h => h.2, fun h => ⟨(Via.lt hE h).1, h⟩⟩
 have hnd : ∀ i, (L i).Nodup := fun i => List.Nodup.sublist List.filter_sublist List.nodup_range
 have key : ∀ m i, (L i).length ≤ m → Acc E i := by
  intro m
  induction m with
  | zero =>
   intro i hm
   refine ⟨_, fun j hj => ?_⟩
   have : j ∈ L i := (hL i j).2 (Via.edge hj)
   have := List.length_pos_of_mem this
   omega
  | succ m ih =>
   intro i hm
   refine ⟨_, fun j hj => ih j ?_⟩
   have hjn := (hE j i hj).1
   have h1 : (j :: L j).Nodup := List.nodup_cons.2 ⟨fun h => ho j hjn ((hL j j).1 h), hnd j⟩
   have h2 := zbp (m := L i) h1 fun x hx => by
    rcases List.mem_cons.1 hx with rfl | hx
    ·exact (hL i x).2 (Via.edge hj)
    ·exact (hL i x).2 (Via.trans hjn ((hL j x).1 hx) (Via.edge hj))
   simp at h2; omega
 exact fun i _ => key _ i (Nat.le_refl _)
theorem not_acc_of_round {n i : Nat} (hE : ∀ a b, E a b → a < n ∧ b < n) (h : Via E n i i) : ¬ Acc E i := by
 refine not_acc_of (S := fun k => Via E n i k ∧ Via E n k i) (fun k hk => ?_) ⟨h, h⟩
 obtain ⟨c, h1, h2⟩ := hk.1.last
 have hkn := (Via.lt hE hk.1).2
 refine ⟨c, ⟨?_, Via.trans hkn (Via.edge h1) hk.2⟩, h1⟩
 rcases h2 with rfl | h2
 ·exact h
 ·exact h2
end
def EdgeN (l : List Ent) (i k : Nat) : Prop := k ∈ parN l i
theorem EdgeN.lt {l : List Ent} : ∀ a b, EdgeN l a b → a < l.length ∧ b < l.length := fun a b h => by
 refine ⟨?_, parN_lt h⟩
 unfold EdgeN parN at h
 split at h
 ·rename_i e he; exact (List.getElem?_eq_some_iff.1 he).1
 ·simp at h
theorem edge_acc {l : List Ent} {i : Nat} : Acc (EdgeN l) i ↔ Acc (fun i j => i < l.length ∧ j ∈ parN l i) i := by
 constructor <;> exact Acc.mono fun a b h => by first | exact ⟨(EdgeN.lt a b h).1, h⟩ | exact h.2
theorem rounded_via {l : List Ent} (hn : (l.map Ent.uid).Nodup) : Rounded l ↔ ∃ i, i < l.length ∧ Via (EdgeN l) l.length i i := by
 constructor
 ·rintro ⟨u, hu, ha⟩
  obtain ⟨f, hf, rfl⟩ := List.mem_map.1 hu
  obtain ⟨k, hk⟩ := List.mem_iff_getElem?.1 hf
  refine Classical.byContradiction fun hno => ha ?_
  have := acc_of_open (E := EdgeN l) (n := l.length) EdgeN.lt (fun i hi h => hno ⟨i, hi, h⟩) k (List.getElem?_eq_some_iff.1 hk).1
  exact (acc_iff hn hk).1 (edge_acc.1 this)
 ·rintro ⟨i, hi, h⟩
  have hk : l[i]? = some l[i] := List.getElem?_eq_getElem hi
  exact ⟨l[i].uid, List.mem_map.2 ⟨_, List.getElem_mem hi, rfl⟩, fun ha => not_acc_of_round EdgeN.lt h (edge_acc.2 ((acc_iff hn hk).2 ha))⟩
/-! ### a table that is filled up -/
section
variable {E : Nat → Nat → Prop} {n : Nat}
def Snd (E : Nat → Nat → Prop) (n : Nat) (t : Nat → Nat → Bool) : Prop := ∀ a b, a < n → b < n → t a b = true → Via E n a b
def Cpl (E : Nat → Nat → Prop) (n k : Nat) (t : Nat → Nat → Bool) : Prop := ∀ a b, a < n → b < n → Via E k a b → t a b = true
def setT (t : Nat → Nat → Bool) (i j : Nat) : Nat → Nat → Bool := fun a b => if a = i ∧ b = j then true else t a b
theorem setT_mono {t : Nat → Nat → Bool} {i j a b : Nat} (h : t a b = true) : setT t i j a b = true := by unfold setT; split <;> simp [h]
theorem setT_same {t : Nat → Nat → Bool} {i j : Nat} : setT t i j i j = true := by simp [setT]
theorem Snd.set {t : Nat → Nat → Bool} {i j : Nat} (h : Snd E n t) (hv : Via E n i j) : Snd E n (setT t i j) := fun a b ha hb hab => by
 unfold setT at hab
 split at hab
 ·rename_i he; obtain ⟨rfl, rfl⟩ := he; exact hv
 ·exact h a b ha hb hab
theorem Cpl.set {t : Nat → Nat → Bool} {k i j : Nat} (h : Cpl E n k t) : Cpl E n k (setT t i j) := fun a b ha hb hab => setT_mono (h a b ha hb hab)
def Edg (E : Nat → Nat → Prop) (i : Nat) (t : Nat → Nat → Bool) : Prop := ∀ a b, a < i → E a b → t a b = true
theorem Edg.set {t : Nat → Nat → Bool} {m i j : Nat} (h : Edg E m t) : Edg E m (setT t i j) := fun a b ha hab => setT_mono (h a b ha hab)
theorem Edg.cpl {t : Nat → Nat → Bool} (h : Edg E n t) : Cpl E n 0 t := fun a b ha _ hab => h a b ha hab
def Row (E : Nat → Nat → Prop) (n k i j : Nat) (t : Nat → Nat → Bool) : Prop := ∀ a b, a < n → b < n → (a < i ∨ (a = i ∧ b < j)) → Via E k a k → Via E k k b → t a b = true
theorem Row.set {t : Nat → Nat → Bool} {k i j p q : Nat} (h : Row E n k i j t) : Row E n k i j (setT t p q) := fun a b ha hb hab h1 h2 => setT_mono (h a b ha hb hab h1 h2)
theorem Row.zero {t : Nat → Nat → Bool} {k : Nat} : Row E n k 0 0 t := fun a b _ _ h => by omega
theorem Row.next {t : Nat → Nat → Bool} {k i : Nat} (h : Row E n k i n t) : Row E n k (i + 1) 0 t := fun a b ha hb hab h1 h2 => h a b ha hb (by omega) h1 h2
theorem Row.last {t : Nat → Nat → Bool} {k : Nat} (h : Row E n k n 0 t) (hc : Cpl E n k t) : Cpl E n (k + 1) t := fun a b ha hb hab => by
 rcases hab with hab | hab
 ·exact hc a b ha hb hab
 ·exact h a b ha hb (.inl ha) hab.1 hab.2
theorem Row.yes {t : Nat → Nat → Bool} {k i j : Nat} (h : Row E n k i j t) : Row E n k i (j + 1) (setT t i j) := fun a b ha hb hab h1 h2 => by
 unfold setT
 split
 ·rfl
 ·exact h a b ha hb (by omega) h1 h2
theorem Row.no {t : Nat → Nat → Bool} {k i j : Nat} (h : Row E n k i j t) (hc : Cpl E n k t) (hk : k < n) (hi : i < n) (hj : j < n) (hno : ¬ (t i k = true ∧ t k j = true)) : Row E n k i (j + 1) t := fun a b ha hb hab h1 h2 => by
 by_cases he : a = i ∧ b = j
 ·obtain ⟨rfl, rfl⟩ := he
  exact absurd ⟨hc a k hi hk h1, hc k b hk hj h2⟩ hno
 ·exact h a b ha hb (by omega) h1 h2
theorem full_iff {t : Nat → Nat → Bool} (hs : Snd E n t) (hc : Cpl E n n t) {a b : Nat} (ha : a < n) (hb : b < n) : t a b = true ↔ Via E n a b := ⟨hs a b ha hb, hc a b ha hb⟩
end
/-! ### a rising row with one more -/
def ze1 (u : Uid) : Bool → List Uid → List Uid
 | put, [] => if put then [] else [u]
 | put, x :: r => (if put = false ∧ 0 ≤ ordU x u then [u] else []) ++ (if x = u then [] else [x]) ++ ze1 u (put || decide (0 ≤ ordU x u)) r
theorem zfa (u : Uid) : ordU u u = 0 := (GoodAt.ordU u).refl
theorem putU_done {u : Uid} : ∀ {l : List Uid}, (∀ x ∈ l, x ≠ u) → ze1 u true l = l
 | [], _ => rfl
 | x :: r, h => by simp [ze1, h x (by simp), putU_done (l := r) fun y hy => h y (by simp [hy])]
theorem putU_ins {u : Uid} : ∀ {l : List Uid}, zb9 ordU l → ze1 u false l = ins ordU u l
 | [], _ => rfl
 | x :: r, h => by
  obtain ⟨h1, h2⟩ := List.pairwise_cons.1 h
  have hr := (GoodAt.ordU x).range u
  unfold ze1 ins
  by_cases hm : ordU x u = -1
  ·have hne : x ≠ u := fun e => by subst e; rw [zfa] at hm; omega
   rw [if_neg (by omega), if_neg hne, if_pos hm, decide_eq_false (by omega)]
   simp [putU_ins h2]
  ·have hge : 0 ≤ ordU x u := by omega
   rw [if_pos ⟨rfl, hge⟩, if_neg hm, decide_eq_true hge]
   by_cases h0 : ordU x u = 0
   ·have := zew h0
    subst this
    rw [if_pos rfl, if_pos h0]
    have : ze1 x true r = r := putU_done fun y hy e => by
     have := h1 y hy
     rw [e, zfa] at this; omega
    simp [this]
   ·have hne : x ≠ u := fun e => h0 (by rw [e]; exact zfa _)
    rw [if_neg hne, if_neg h0]
    have : ze1 u true r = r := putU_done fun y hy e => by
     subst e
     have := h1 y hy
     omega
    simp [this]
theorem sortU_snoc {α : Type} {c : α → α → Int} {l : List α} {x : α} : sortU c (l ++ [x]) = ins c x (sortU c l) := by simp [sortU]
theorem ins_here {l : List Ent} {x : Ent} {p : Nat} (hs : zb9 cmpE l) (hp : p ≤ l.length) (h1 : ∀ i y, i < p → l[i]? = some y → cmpE y x = -1) (h2 : ∀ y, l[p]? = some y → ¬ cmpE y x = -1) (hx : x.uid ∉ l.map Ent.uid) : ins cmpE x l = l.take p ++ x :: l.drop p := by
 have h3 : ∀ i y, p ≤ i → l[i]? = some y → ¬ cmpE y x = -1 := fun i y hi hy h => by
  by_cases he : i = p
  ·subst he; exact h2 y hy h
  ·obtain ⟨z, hz⟩ : ∃ z, l[p]? = some z := ⟨_, List.getElem?_eq_getElem (by have := (List.getElem?_eq_some_iff.1 hy).1; omega)⟩
   have hzy : cmpE z y = -1 := by
    have ha := (List.getElem?_eq_some_iff.1 hz)
    have hb := (List.getElem?_eq_some_iff.1 hy)
    have := List.pairwise_iff_getElem.1 hs p i ha.1 hb.1 (by omega)
    rwa [ha.2, hb.2] at this
   exact h2 z hz ((GoodAt.cmpE z).less y x hzy (by omega))
 rcases ins_at GoodAt.cmpE hs hp h1 h3 with h | h
 ·obtain ⟨⟨i, y, _, hy, h0⟩, _⟩ := h
  exact absurd (List.mem_map.2 ⟨y, List.mem_of_getElem? hy, zew h0⟩) hx
 ·exact h.2
theorem sortE_uids {l : List Ent} {u : Uid} (h : u ∈ (sortU cmpE l).map Ent.uid) : u ∈ l.map Ent.uid := by
 obtain ⟨e, he, rfl⟩ := List.mem_map.1 h
 exact List.mem_map.2 ⟨e, zei he, rfl⟩
theorem nodup_idx {us : List Uid} (h : ∀ i u, us[i]? = some u → idx us u = some i) : us.Nodup := by
 rw [List.Nodup, List.pairwise_iff_getElem]
 intro i j hi hj hij he
 have h1 := h i us[i] (List.getElem?_eq_getElem hi)
 have h2 := h j us[j] (List.getElem?_eq_getElem hj)
 rw [he, h2] at h1
 have := Option.some.inj h1
 omega
end Go.Proofs.YtebfoimbdljbmaaGreatDoor

/-
  The reference's rising row of names with one more. The conditions: the row lies in memory as it should.
-/
namespace Go.Proofs.YtebfoimbdljbmaaGreatDoor
open Go.RowKit
open Lib renaming hid → q_
set_option maxRecDepth 100000
set_option maxHeartbeats 1600000
theorem put5_ok (S : Nat → Prop) (l : List Uid) (v : Value) (u : Uid) (w : World) (hS : ∀ b, S b → b < w.heap.size) (hl : uidR.RowsAt S w l v) (hu : FitU u) (hlen : l.length ≤ 1048576) :
  Calls Tryz.prog 74 #[v, zeu u] w fun e w' => ∃ v', e = .returned v' ∧ OwnL uidR 23 w.heap.size w' v' (ze1 u false l) ∧ Ext w w' := by
 obtain ⟨A, cap, rfl, ⟨hl0, hl1, hl2⟩, hlr⟩ := hl
 clear hl0
 rw [zaj] at hl2
 have HS := q_ hS
 have HL := q_ hlr
 have HFu := q_ hu
 clear hS hlr hu
 obtain ⟨t, i⟩ := u
 obtain ⟨iu, hiu, uz0, uz1, uz2⟩ := info_parts Tryz.info23
 unfold zeu
 go_enter Tryz.func74, Tryz.ntmps74
 go_wp2_with fail
 go_loopw [5, 6, 7] (fun out put i' wr => ∃ (j : Nat) (q : Bool) (acc : List Uid), j ≤ l.length ∧ i' = .int .i64 j ∧ put = .bool q ∧ acc.length ≤ 2 * j + 1 ∧ Hid (OwnL uidR 23 (w.heap.size + 1) wr out acc) ∧
   Hid (wr.heap[w.heap.size]? = some (.cells #[.string t, .string i] 23 (0, 0))) ∧ Hid (Ext w wr) ∧ Hid (acc ++ ze1 (t, i) q (l.drop j) = ze1 (t, i) false l)) (fun _ _ i' _ => l.length - (intOf i').toNat)
 case atStart => exact ⟨0, false, [], Nat.zero_le _, rfl, rfl, by simp, q_ OwnL.nil, q_ (heap_alloc_new _ _), q_ ((Ext.refl w).alloc _), q_ (by simp)⟩
 case round =>
  obtain ⟨j, q, acc, hj, rfl, rfl, hacc, HO, HB, HX, HE⟩ := hrel
  by_cases hlt : j < l.length
  ·obtain ⟨b, o, rfl, hSb, hrow⟩ := HL.out (by omega)
   obtain ⟨x, hx⟩ : ∃ x, l[j]? = some x := ⟨_, List.getElem?_eq_getElem hlt⟩
   obtain ⟨cs, hca, rfl, hfx⟩ := hrow j x hx
   have hca' : CellsAt wr b (o + j * 2) _ := hca.alike hSb (Alike.of_ext HX.out HS.out)
   have k0 : wr.cell? ⟨b, o + j * 2, none⟩ = some (.string x.1) := hca' 0 _ rfl
   have k1 : wr.cell? ⟨b, o + j * 2 + 1, none⟩ = some (.string x.2) := hca' 1 _ rfl
   have HFx := q_ hfx
   have K0 := q_ (show w.cell? ⟨b, o + j * 2, none⟩ = some (.string x.1) from hca 0 _ rfl)
   have K1 := q_ (show w.cell? ⟨b, o + j * 2 + 1, none⟩ = some (.string x.2) from hca 1 _ rfl)
   have Hd := q_ (show l.drop j = x :: l.drop (j + 1) by
    obtain ⟨h1, h2⟩ := List.getElem?_eq_some_iff.1 hx
    rw [← h2]; exact (List.drop_eq_getElem_cons h1))
   clear hx hca hrow hfx hca'
   cases q with
   | true =>
    clear k0 k1
    go_wp2_with fail
    refine zax (by kernel_rfl) (by kernel_rfl) ?_
    repeat (go_big_quiet_step (fail))
    refine wpQuiet_nil ?_
    intro w2 hw2
    have HX2 := q_ (HX.out.trans hw2)
    have HO2 := q_ (HO.out.ext hw2)
    have HB2 := q_ ((hw2.block _ (zaf HB.out)).trans HB.out)
    have HE2 : Hid (acc ++ (if x = (t, i) then [] else [x]) ++ ze1 (t, i) true (l.drop (j + 1)) = ze1 (t, i) false l) := q_ (by have h := HE.out; rw [Hd.out] at h; simpa [ze1] using h)
    clear hw2 HX HO HB HE Hd
    have hr0 := zac (show w2.cell? ⟨b, o + j * 2, none⟩ = some (.string x.1) from HX2.out.cell K0.out)
    have hr1 := zac (show w2.cell? ⟨b, o + j * 2 + 1, none⟩ = some (.string x.2) from HX2.out.cell K1.out)
    have hb0 := cell_of_row _ _ 0 _ _ _ HB2.out
    have hb1 := cell_of_row _ _ 1 _ _ _ HB2.out
    simp at hb0 hb1
    have hr2 := zac hb0
    have hr3 := zac hb1
    clear hb0 hb1
    obtain ⟨tb, htb⟩ : ∃ tb, decide (x = (t, i)) = tb := ⟨_, rfl⟩
    have tq : ∀ w, (binOp .neq 23 (.agg #[.string x.1, .string x.2]) (.agg #[.string t, .string i])).run Tryz.prog w = .ok (.bool !tb) w := fun w => by rw [← htb]; exact neqU x (t, i) w
    have tq' : ∀ w, (Op.equalIn 10000 23 (.agg #[.string x.1, .string x.2]) (.agg #[.string t, .string i])).run Tryz.prog w = .ok tb w := fun w => by rw [← htb]; exact eqlU_in x (t, i) w
    have tg : ∀ (p q : Operand) w, (eqGuard .neq 23 p q (.agg #[.string x.1, .string x.2]) (.agg #[.string t, .string i])).run Tryz.prog w = .ok () w := fun p q w => guardU _ p q x (t, i) w
    have HT := q_ htb
    clear htb
    go_wp2_with fail
    refine zax (by kernel_rfl) (by kernel_rfl) ?_
    repeat (quiet_step (fail))
    refine wpQuiet_nil ?_
    intro w3 hw3
    have HX3 := q_ hw3
    have HO3 := q_ (HO2.out.ext hw3)
    have HB3 := q_ ((hw3.block _ (zaf HB2.out)).trans HB2.out)
    have d0 : w3.cell? ⟨b, o + j * 2, none⟩ = some (.string x.1) := (HX2.out.trans HX3.out).cell K0.out
    have d1 : w3.cell? ⟨b, o + j * 2 + 1, none⟩ = some (.string x.2) := (HX2.out.trans HX3.out).cell K1.out
    clear tq tq' tg hw3 hr0 hr1 hr2 hr3
    cases tb with
    | true =>
     have HE3 : Hid (acc ++ ze1 (t, i) true (l.drop (j + 1)) = ze1 (t, i) false l) := q_ (by have h := HE2.out; rw [if_pos (of_decide_eq_true HT.out)] at h; simpa using h)
     clear d0 d1
     go_wp2_with fail
     go_roundw
     case rel => exact ⟨j + 1, true, acc, by omega, by go_num, rfl, by omega, HO3, HB3, q_ (HX2.out.trans HX3.out), HE3⟩
     case measure => simp [intOf]; omega
    | false =>
     have HE3 : Hid ((acc ++ [x]) ++ ze1 (t, i) true (l.drop (j + 1)) = ze1 (t, i) false l) := q_ (by have h := HE2.out; rw [if_neg (of_decide_eq_false HT.out)] at h; simpa using h)
     go_wp2_with (at_builtin; refine zck rfl (.tmp 35) (.tmp 40) 50 rfl uidR (w.heap.size + 1) 23 iu _ 32 Tryz.underlying50 hiu uz0 uz1 uz2 rfl u5 acc w3 23 x [.string x.1, .string x.2] rfl rfl HO3.out ⟨rfl, HFx.out⟩ (by rw [zaj]; omega) (by omega) ?qb ?_)
     case qb => have := HX3.out.size; have := HX2.out.size; have := zaf HB2.out; omega
     intro v' w4 hown' hgr'
     have hx4 : Ext w w4 := zav (HX2.out.trans HX3.out) hgr' fun b hb => by have := (HO3.out.lt b hb).1; omega
     have hb4 : w4.heap[w.heap.size]? = some (.cells #[.string t, .string i] 23 (0, 0)) := (hgr'.block _ (zaf HB3.out) fun e => by have := (HO3.out.lt _ e.symm).1; omega).trans HB3.out
     have HO4 := q_ hown'
     have HX4 := q_ hx4
     have HB4 := q_ hb4
     clear hown' hx4 hb4 hgr' d0 d1
     go_wp2_with fail
     go_roundw
     case rel => exact ⟨j + 1, true, acc ++ [x], by omega, by go_num, rfl, by simp; omega, HO4, HB4, HX4, HE3⟩
     case measure => simp [intOf]; omega
   | false =>
    have c0 := cell_of_row _ _ 0 _ _ _ HB.out
    have c1 := cell_of_row _ _ 1 _ _ _ HB.out
    simp at c0 c1
    have r0 := zac k0
    have r1 := zac k1
    have r2 := zac c0
    have r3 := zac c1
    clear k0 k1 c0 c1
    by_cases hge : 0 ≤ ordU x (t, i)
    ·have hd : decide (0 ≤ ordU x (t, i)) = true := decide_eq_true hge
     go_wp2_with fail
     refine zax (by kernel_rfl) (by kernel_rfl) ?_
     repeat (go_big_quiet_step ((go_at_call 40; exact zbx (fun w1 hw1 => order5_ok x (t, i) w1 HFx.out HFu.out) _ _)))
     refine wpQuiet_nil ?_
     intro w2 hw2
     have HX2 := q_ (HX.out.trans hw2)
     have HO2 := q_ (HO.out.ext hw2)
     have HB2 := q_ ((hw2.block _ (zaf HB.out)).trans HB.out)
     have HE2 : Hid ((acc ++ [(t, i)]) ++ (if x = (t, i) then [] else [x]) ++ ze1 (t, i) true (l.drop (j + 1)) = ze1 (t, i) false l) := q_ (by have h := HE.out; rw [Hd.out] at h; simpa [ze1, hge] using h)
     have b0 := cell_of_row _ _ 0 _ _ _ HB2.out
     have b1 := cell_of_row _ _ 1 _ _ _ HB2.out
     simp at b0 b1
     clear hw2 HX HO HB HE Hd hd r0 r1 r2 r3
     go_wp2_with (at_builtin; refine zck rfl (.tmp 25) (.tmp 27) 50 rfl uidR (w.heap.size + 1) 23 iu _ 32 Tryz.underlying50 hiu uz0 uz1 uz2 rfl u5 acc w2 23 (t, i) [.string t, .string i] rfl rfl HO2.out ⟨rfl, HFu.out⟩ (by rw [zaj]; omega) (by omega) ?qb ?_)
     case qb => have := zaf HB2.out; omega
     intro out2 w22 hown' hgr'
     have hx4 : Ext w w22 := zav HX2.out hgr' fun b hb => by have := (HO2.out.lt b hb).1; omega
     have hb4 : w22.heap[w.heap.size]? = some (.cells #[.string t, .string i] 23 (0, 0)) := (hgr'.block _ (zaf HB2.out) fun e => by have := (HO2.out.lt _ e.symm).1; omega).trans HB2.out
     have HO4 := q_ hown'
     have HX4 := q_ hx4
     have HB4 := q_ hb4
     have hl4 : (acc ++ [(t, i)]).length ≤ 2 * j + 2 := by simp; omega
     generalize acc ++ [(t, i)] = acc2 at HO4 HE2 hl4
     clear hown' hx4 hb4 hgr' b0 b1 HO2 HX2 HB2 hacc
     have HO2 := HO4
     have HX2 := HX4
     have HB2 := HB4
     clear HO4 HX4 HB4
     have hr0 := zac (show w22.cell? ⟨b, o + j * 2, none⟩ = some (.string x.1) from HX2.out.cell K0.out)
     have hr1 := zac (show w22.cell? ⟨b, o + j * 2 + 1, none⟩ = some (.string x.2) from HX2.out.cell K1.out)
     have hb0 := cell_of_row _ _ 0 _ _ _ HB2.out
     have hb1 := cell_of_row _ _ 1 _ _ _ HB2.out
     simp at hb0 hb1
     have hr2 := zac hb0
     have hr3 := zac hb1
     clear hb0 hb1
     obtain ⟨tb, htb⟩ : ∃ tb, decide (x = (t, i)) = tb := ⟨_, rfl⟩
     have tq : ∀ w, (binOp .neq 23 (.agg #[.string x.1, .string x.2]) (.agg #[.string t, .string i])).run Tryz.prog w = .ok (.bool !tb) w := fun w => by rw [← htb]; exact neqU x (t, i) w
     have tq' : ∀ w, (Op.equalIn 10000 23 (.agg #[.string x.1, .string x.2]) (.agg #[.string t, .string i])).run Tryz.prog w = .ok tb w := fun w => by rw [← htb]; exact eqlU_in x (t, i) w
     have tg : ∀ (p q : Operand) w, (eqGuard .neq 23 p q (.agg #[.string x.1, .string x.2]) (.agg #[.string t, .string i])).run Tryz.prog w = .ok () w := fun p q w => guardU _ p q x (t, i) w
     have HT := q_ htb
     clear htb
     go_wp2_with fail
     refine zax (by kernel_rfl) (by kernel_rfl) ?_
     repeat (quiet_step (fail))
     refine wpQuiet_nil ?_
     intro w3 hw3
     have HX3 := q_ hw3
     have HO3 := q_ (HO2.out.ext hw3)
     have HB3 := q_ ((hw3.block _ (zaf HB2.out)).trans HB2.out)
     have d0 : w3.cell? ⟨b, o + j * 2, none⟩ = some (.string x.1) := (HX2.out.trans HX3.out).cell K0.out
     have d1 : w3.cell? ⟨b, o + j * 2 + 1, none⟩ = some (.string x.2) := (HX2.out.trans HX3.out).cell K1.out
     clear tq tq' tg hw3 hr0 hr1 hr2 hr3
     cases tb with
     | true =>
      have HE3 : Hid (acc2 ++ ze1 (t, i) true (l.drop (j + 1)) = ze1 (t, i) false l) := q_ (by have h := HE2.out; rw [if_pos (of_decide_eq_true HT.out)] at h; simpa using h)
      clear d0 d1
      go_wp2_with fail
      go_roundw
      case rel => exact ⟨j + 1, true, acc2, by omega, by go_num, rfl, by omega, HO3, HB3, q_ (HX2.out.trans HX3.out), HE3⟩
      case measure => simp [intOf]; omega
     | false =>
      have HE3 : Hid ((acc2 ++ [x]) ++ ze1 (t, i) true (l.drop (j + 1)) = ze1 (t, i) false l) := q_ (by have h := HE2.out; rw [if_neg (of_decide_eq_false HT.out)] at h; simpa using h)
      go_wp2_with (at_builtin; refine zck rfl (.tmp 35) (.tmp 40) 50 rfl uidR (w.heap.size + 1) 23 iu _ 32 Tryz.underlying50 hiu uz0 uz1 uz2 rfl out2 acc2 w3 23 x [.string x.1, .string x.2] rfl rfl HO3.out ⟨rfl, HFx.out⟩ (by rw [zaj]; omega) (by omega) ?qb ?_)
      case qb => have := HX3.out.size; have := HX2.out.size; have := zaf HB2.out; omega
      intro v' w4 hown' hgr'
      have hx4 : Ext w w4 := zav (HX2.out.trans HX3.out) hgr' fun b hb => by have := (HO3.out.lt b hb).1; omega
      have hb4 : w4.heap[w.heap.size]? = some (.cells #[.string t, .string i] 23 (0, 0)) := (hgr'.block _ (zaf HB3.out) fun e => by have := (HO3.out.lt _ e.symm).1; omega).trans HB3.out
      have HO4 := q_ hown'
      have HX4 := q_ hx4
      have HB4 := q_ hb4
      clear hown' hx4 hb4 hgr' d0 d1
      go_wp2_with fail
      go_roundw
      case rel => exact ⟨j + 1, true, acc2 ++ [x], by omega, by go_num, rfl, by simp; omega, HO4, HB4, HX4, HE3⟩
      case measure => simp [intOf]; omega
    ·have hd : decide (0 ≤ ordU x (t, i)) = false := decide_eq_false hge
     go_wp2_with fail
     refine zax (by kernel_rfl) (by kernel_rfl) ?_
     repeat (go_big_quiet_step ((go_at_call 40; exact zbx (fun w1 hw1 => order5_ok x (t, i) w1 HFx.out HFu.out) _ _)))
     refine wpQuiet_nil ?_
     intro w2 hw2
     have HX2 := q_ (HX.out.trans hw2)
     have HO2 := q_ (HO.out.ext hw2)
     have HB2 := q_ ((hw2.block _ (zaf HB.out)).trans HB.out)
     have HE2 : Hid (acc ++ (if x = (t, i) then [] else [x]) ++ ze1 (t, i) false (l.drop (j + 1)) = ze1 (t, i) false l) := q_ (by
      have h := HE.out
      rw [Hd.out] at h
      simp only [ze1, hd] at h
      rw [if_neg (fun e => absurd e.2 (by omega))] at h
      simpa using h)
     clear hw2 HX HO HB HE Hd hd r0 r1 r2 r3
     have hr0 := zac (show w2.cell? ⟨b, o + j * 2, none⟩ = some (.string x.1) from HX2.out.cell K0.out)
     have hr1 := zac (show w2.cell? ⟨b, o + j * 2 + 1, none⟩ = some (.string x.2) from HX2.out.cell K1.out)
     have hb0 := cell_of_row _ _ 0 _ _ _ HB2.out
     have hb1 := cell_of_row _ _ 1 _ _ _ HB2.out
     simp at hb0 hb1
     have hr2 := zac hb0
     have hr3 := zac hb1
     clear hb0 hb1
     obtain ⟨tb, htb⟩ : ∃ tb, decide (x = (t, i)) = tb := ⟨_, rfl⟩
     have tq : ∀ w, (binOp .neq 23 (.agg #[.string x.1, .string x.2]) (.agg #[.string t, .string i])).run Tryz.prog w = .ok (.bool !tb) w := fun w => by rw [← htb]; exact neqU x (t, i) w
     have tq' : ∀ w, (Op.equalIn 10000 23 (.agg #[.string x.1, .string x.2]) (.agg #[.string t, .string i])).run Tryz.prog w = .ok tb w := fun w => by rw [← htb]; exact eqlU_in x (t, i) w
     have tg : ∀ (p q : Operand) w, (eqGuard .neq 23 p q (.agg #[.string x.1, .string x.2]) (.agg #[.string t, .string i])).run Tryz.prog w = .ok () w := fun p q w => guardU _ p q x (t, i) w
     have HT := q_ htb
     clear htb
     go_wp2_with fail
     refine zax (by kernel_rfl) (by kernel_rfl) ?_
     repeat (quiet_step (fail))
     refine wpQuiet_nil ?_
     intro w3 hw3
     have HX3 := q_ hw3
     have HO3 := q_ (HO2.out.ext hw3)
     have HB3 := q_ ((hw3.block _ (zaf HB2.out)).trans HB2.out)
     have d0 : w3.cell? ⟨b, o + j * 2, none⟩ = some (.string x.1) := (HX2.out.trans HX3.out).cell K0.out
     have d1 : w3.cell? ⟨b, o + j * 2 + 1, none⟩ = some (.string x.2) := (HX2.out.trans HX3.out).cell K1.out
     clear tq tq' tg hw3 hr0 hr1 hr2 hr3
     cases tb with
     | true =>
      have HE3 : Hid (acc ++ ze1 (t, i) false (l.drop (j + 1)) = ze1 (t, i) false l) := q_ (by have h := HE2.out; rw [if_pos (of_decide_eq_true HT.out)] at h; simpa using h)
      clear d0 d1
      go_wp2_with fail
      go_roundw
      case rel => exact ⟨j + 1, false, acc, by omega, by go_num, rfl, by omega, HO3, HB3, q_ (HX2.out.trans HX3.out), HE3⟩
      case measure => simp [intOf]; omega
     | false =>
      have HE3 : Hid ((acc ++ [x]) ++ ze1 (t, i) false (l.drop (j + 1)) = ze1 (t, i) false l) := q_ (by have h := HE2.out; rw [if_neg (of_decide_eq_false HT.out)] at h; simpa using h)
      go_wp2_with (at_builtin; refine zck rfl (.tmp 35) (.tmp 40) 50 rfl uidR (w.heap.size + 1) 23 iu _ 32 Tryz.underlying50 hiu uz0 uz1 uz2 rfl u5 acc w3 23 x [.string x.1, .string x.2] rfl rfl HO3.out ⟨rfl, HFx.out⟩ (by rw [zaj]; omega) (by omega) ?qb ?_)
      case qb => have := HX3.out.size; have := HX2.out.size; have := zaf HB2.out; omega
      intro v' w4 hown' hgr'
      have hx4 : Ext w w4 := zav (HX2.out.trans HX3.out) hgr' fun b hb => by have := (HO3.out.lt b hb).1; omega
      have hb4 : w4.heap[w.heap.size]? = some (.cells #[.string t, .string i] 23 (0, 0)) := (hgr'.block _ (zaf HB3.out) fun e => by have := (HO3.out.lt _ e.symm).1; omega).trans HB3.out
      have HO4 := q_ hown'
      have HX4 := q_ hx4
      have HB4 := q_ hb4
      clear hown' hx4 hb4 hgr' d0 d1
      go_wp2_with fail
      go_roundw
      case rel => exact ⟨j + 1, false, acc ++ [x], by omega, by go_num, rfl, by simp; omega, HO4, HB4, HX4, HE3⟩
      case measure => simp [intOf]; omega
  ·have hje : l.drop j = [] := List.drop_eq_nil_of_le (by omega)
   have Hje := q_ hje
   clear hje
   cases q with
   | true =>
    have HE2 : Hid (ze1 (t, i) false l = acc) := q_ (by have h := HE.out; rw [Hje.out] at h; simpa [ze1] using h.symm)
    go_wp2_with fail
    go_ret
    exact ⟨_, rfl, by rw [HE2.out]; exact HO.out.low (Nat.le_succ _), HX.out⟩
   | false =>
    have HE2 : Hid (ze1 (t, i) false l = acc ++ [(t, i)]) := q_ (by have h := HE.out; rw [Hje.out] at h; simpa [ze1] using h.symm)
    have b0 := cell_of_row _ _ 0 _ _ _ HB.out
    have b1 := cell_of_row _ _ 1 _ _ _ HB.out
    simp at b0 b1
    go_wp2_with (at_builtin; refine zck rfl (.tmp 44) (.tmp 46) 50 rfl uidR (w.heap.size + 1) 23 iu _ 32 Tryz.underlying50 hiu uz0 uz1 uz2 rfl u5 acc wr 23 (t, i) [.string t, .string i] rfl rfl HO.out ⟨rfl, HFu.out⟩ (by rw [zaj]; omega) (by omega) ?qb ?_)
    case qb => have := zaf HB.out; omega
    intro v' w4 hown' hgr'
    have hx4 : Ext w w4 := zav HX.out hgr' fun b hb => by have := (HO.out.lt b hb).1; omega
    have HO4 := q_ hown'
    have HX4 := q_ hx4
    clear hown' hx4 hgr' b0 b1
    go_wp2_with fail
    go_ret
    exact ⟨_, rfl, by rw [HE2.out]; exact HO4.out.low (Nat.le_succ _), HX4.out⟩
end Go.Proofs.YtebfoimbdljbmaaGreatDoor

/-
  The reference's table of what ways lead to: what it holds at the end. The conditions: the entities lie in memory as they should, and are few.
-/
namespace Go.Proofs.YtebfoimbdljbmaaGreatDoor
open Go.RowKit
open Lib renaming hid → q_
set_option maxRecDepth 100000
set_option maxHeartbeats 4000000
def TabAt (w : World) (g n : Nat) (t : Nat → Nat → Bool) : Prop :=
 ∃ cur, w.heap[g]? = some (.cells cur 4 (0, 0)) ∧ cur.size = n * n ∧ ∀ i j, i < n → j < n → cur[i * n + j]? = some (.bool (t i j))
theorem sq_lt {n i j : Nat} (hi : i < n) (hj : j < n) : i * n + j < n * n := by
 have h1 : (i + 1) * n ≤ n * n := Nat.mul_le_mul_right _ hi
 rw [Nat.succ_mul] at h1
 omega
theorem sq_inj {n i j a b : Nat} (hj : j < n) (hb : b < n) (h : a * n + b = i * n + j) : a = i ∧ b = j := by
 have hn : 0 < n := by omega
 have h1 : (a * n + b) / n = a := by rw [Nat.mul_comm, Nat.mul_add_div hn, Nat.div_eq_of_lt hb, Nat.add_zero]
 have h2 : (i * n + j) / n = i := by rw [Nat.mul_comm, Nat.mul_add_div hn, Nat.div_eq_of_lt hj, Nat.add_zero]
 have h3 : a = i := by rw [← h1, h, h2]
 subst h3
 exact ⟨rfl, by omega⟩
theorem TabAt.cell {w : World} {g n : Nat} {t : Nat → Nat → Bool} (h : TabAt w g n t) {i j : Nat} (hi : i < n) (hj : j < n) : w.cell? ⟨g, i * n + j, none⟩ = some (.bool (t i j)) := by
 obtain ⟨cur, h1, h2, h3⟩ := h
 rw [cell_of_row _ _ _ _ _ _ h1]
 exact h3 i j hi hj
theorem TabAt.free {w : World} {g n : Nat} {t : Nat → Nat → Bool} (h : TabAt w g n t) (k : Nat) : w.frozen? ⟨g, k, none⟩ = false := by
 obtain ⟨cur, h1, _⟩ := h
 exact frozen_of_row _ _ _ _ _ h1
theorem TabAt.lt {w : World} {g n : Nat} {t : Nat → Nat → Bool} (h : TabAt w g n t) : g < w.heap.size := by
 obtain ⟨cur, h1, _⟩ := h
 exact zaf h1
theorem TabAt.ext {w w' : World} {g n : Nat} {t : Nat → Nat → Bool} (h : TabAt w g n t) (k : Ext w w') : TabAt w' g n t := by
 obtain ⟨cur, h1, h2⟩ := h
 exact ⟨cur, (k.block _ (zaf h1)).trans h1, h2⟩
theorem TabAt.set {w : World} {g n : Nat} {t : Nat → Nat → Bool} (h : TabAt w g n t) {i j : Nat} (_hi : i < n) (hj : j < n) : TabAt (w.setCell ⟨g, i * n + j, none⟩ (.bool true)) g n (setT t i j) := by
 obtain ⟨cur, h1, h2, h3⟩ := h
 refine ⟨_, zca h1 _ _, by simpa using h2, fun a b ha hb => ?_⟩
 rw [Array.getElem?_setIfInBounds]
 unfold setT
 by_cases he : a = i ∧ b = j
 ·obtain ⟨rfl, rfl⟩ := he
  rw [if_pos rfl, if_pos (by rw [h2]; exact sq_lt ha hb), if_pos ⟨rfl, rfl⟩]
 ·rw [if_neg (fun e => he (sq_inj hj hb e.symm)), if_neg he]
  exact h3 a b ha hb
theorem TabAt.made (w : World) (n : Nat) : TabAt (w.alloc (.cells (madeCells #[.bool false] (n * n)) 4)) w.heap.size n fun _ _ => false := by
 refine ⟨_, heap_alloc_new _ _, by simp [madeCells], fun i j hi hj => ?_⟩
 have h := sq_lt hi hj
 simp [madeCells, h, Nat.mod_one]
theorem Tryz.infoB : (Tryz.prog.info? 4).map (fun i => (i.zero, i.size, i.bytes)) = some (some (.bool false), 1, 1) := by kernel_rfl
def RowE (l : List Ent) (i q : Nat) (x : Ent) (t : Nat → Nat → Bool) : Prop := ∀ (j : Nat) (u : Uid) (p : Nat), j < q → x.ps[j]? = some u → idx (l.map Ent.uid) u = some p → t i p = true
theorem RowE.edg {l : List Ent} {i : Nat} {x : Ent} {t : Nat → Nat → Bool} (hx : l[i]? = some x) (h : RowE l i x.ps.length x t) (k : Edg (EdgeN l) i t) : Edg (EdgeN l) (i + 1) t := fun a b ha hab => by
 by_cases he : a = i
 ·subst he
  have hab : b ∈ parN l a := hab
  rw [parN_of hx, List.mem_filterMap] at hab
  obtain ⟨u, hu, hi⟩ := hab
  obtain ⟨j, hj⟩ := List.mem_iff_getElem?.1 hu
  exact h j u b (List.getElem?_eq_some_iff.1 hj).1 hj hi
 ·exact k a b (by omega) hab
theorem RowE.edge {l : List Ent} {i q p : Nat} {x : Ent} {u : Uid} (hx : l[i]? = some x) (hu : x.ps[q]? = some u) (hp : idx (l.map Ent.uid) u = some p) : EdgeN l i p := by
 show p ∈ parN l i
 rw [parN_of hx, List.mem_filterMap]
 exact ⟨u, List.mem_of_getElem? hu, hp⟩
def Fill1 (l : List Ent) (g i : Nat) (w : World) : Prop := ∃ t, TabAt w g l.length t ∧ Snd (EdgeN l) l.length t ∧ Edg (EdgeN l) i t
def Fill2 (l : List Ent) (g i q : Nat) (x : Ent) (w : World) : Prop := ∃ t, TabAt w g l.length t ∧ Snd (EdgeN l) l.length t ∧ Edg (EdgeN l) i t ∧ RowE l i q x t
def Fill3 (l : List Ent) (g k : Nat) (w : World) : Prop := ∃ t, TabAt w g l.length t ∧ Snd (EdgeN l) l.length t ∧ Cpl (EdgeN l) l.length k t
def Fill4 (l : List Ent) (g k i j : Nat) (w : World) : Prop := ∃ t, TabAt w g l.length t ∧ Snd (EdgeN l) l.length t ∧ Cpl (EdgeN l) l.length k t ∧ Row (EdgeN l) l.length k i j t
theorem RowE.set {l : List Ent} {i q a b : Nat} {x : Ent} {t : Nat → Nat → Bool} (h : RowE l i q x t) : RowE l i q x (setT t a b) := fun j u p h1 h2 h3 => setT_mono (h j u p h1 h2 h3)
theorem Fill2.not {l : List Ent} {g i q : Nat} {x : Ent} {w : World} {y : Uid} (h : Fill2 l g i q x w) (hy : x.ps[q]? = some y) (hf : idx (l.map Ent.uid) y = none) : Fill2 l g i (q + 1) x w := by
 obtain ⟨t, h1, h2, h3, h4⟩ := h
 refine ⟨t, h1, h2, h3, fun j u p hj hu hp => ?_⟩
 by_cases he : j = q
 ·subst he; rw [hy] at hu; cases hu; rw [hf] at hp; cases hp
 ·exact h4 j u p (by omega) hu hp
theorem Fill2.one {l : List Ent} {g i q p : Nat} {x : Ent} {w : World} {y : Uid} (hx : l[i]? = some x) (h : Fill2 l g i q x w) (hy : x.ps[q]? = some y) (hf : idx (l.map Ent.uid) y = some p) (hi : i < l.length) (hp : p < l.length) : Fill2 l g i (q + 1) x (w.setCell ⟨g, i * l.length + p, none⟩ (.bool true)) := by
 obtain ⟨t, h1, h2, h3, h4⟩ := h
 refine ⟨_, h1.set hi hp, h2.set (Via.edge (RowE.edge hx hy hf)), h3.set, fun j u p' hj hu hp' => ?_⟩
 by_cases he : j = q
 ·subst he; rw [hy] at hu; cases hu; rw [hf] at hp'; cases hp'; exact setT_same
 ·exact h4.set j u p' (by omega) hu hp'
theorem Fill2.ext {l : List Ent} {g i q : Nat} {x : Ent} {w w' : World} (h : Fill2 l g i q x w) (k : Ext w w') : Fill2 l g i q x w' := by
 obtain ⟨t, h1, h2⟩ := h
 exact ⟨t, h1.ext k, h2⟩
theorem Fill4.yes {l : List Ent} {g k i j : Nat} {w : World} {t : Nat → Nat → Bool} (h1 : TabAt w g l.length t) (h2 : Snd (EdgeN l) l.length t) (h3 : Cpl (EdgeN l) l.length k t) (h4 : Row (EdgeN l) l.length k i j t) (hk : k < l.length) (hi : i < l.length) (hj : j < l.length) (ht1 : t i k = true) (ht2 : t k j = true) : Fill4 l g k i (j + 1) (w.setCell ⟨g, i * l.length + j, none⟩ (.bool true)) :=
 ⟨_, h1.set hi hj, h2.set (Via.trans hk (h2 i k hi hk ht1) (h2 k j hk hj ht2)), h3.set, h4.yes⟩
theorem above5_ok (S : Nat → Prop) (l : List Ent) (v : Value) (w : World) (hS : ∀ b, S b → b < w.heap.size) (hl : entR.RowsAt S w l v) (h20 : l.length ≤ 1000) :
  Calls Tryz.prog 76 #[v] w fun e w' => ∃ g, e = .returned (.slice (some ⟨g, 0, none⟩) (l.length * l.length) (l.length * l.length)) ∧ w.heap.size ≤ g ∧ Fill3 l g l.length w' ∧ Ext w w' := by
 have hl' := hl
 obtain ⟨A, cap, rfl, ⟨hl0, hl1, hl2⟩, hlr⟩ := hl
 clear hl0
 rw [zaj] at hl2
 have HS := q_ hS
 have HL := q_ hlr
 have HL' := q_ hl'
 clear hS hlr hl'
 obtain ⟨i0, hi0, hz0, hz1, hz2⟩ := info_parts Tryz.infoB
 obtain ⟨nn, hnn⟩ : ∃ nn, l.length * l.length = nn := ⟨_, rfl⟩
 have hnn2 : nn ≤ 1000 * 1000 := by rw [← hnn]; exact Nat.mul_le_mul h20 h20
 have e0 : (l.length : Int) * (l.length : Int) = (nn : Int) := by rw [← hnn]; simp
 rw [hnn]
 have Hnn := q_ hnn
 clear hnn
 go_enter Tryz.func76, Tryz.ntmps76
 go_wp2_with (at_make; refine wpList_make_row _ rfl _ _ 125 rfl 4 i0 (.bool false) Tryz.underlying125 hi0 hz0 hz1 rfl .i64 .i64 nn rfl rfl (by rw [hz2]; omega) (by omega) ?_)
 go_loopw [5] (fun i' wr => ∃ i : Nat, i ≤ l.length ∧ i' = .int .i64 i ∧ Hid (Fill1 l w.heap.size i wr) ∧ Hid (Ext w wr)) (fun i' _ => l.length - (intOf i').toNat)
 case atStart => exact ⟨0, Nat.zero_le _, rfl, q_ ⟨fun _ _ => false, by have h := TabAt.made w l.length; rwa [Hnn.out] at h, (fun a b _ _ h => nomatch h), fun a b h => by omega⟩, q_ ((Ext.refl w).alloc _)⟩
 case round =>
  obtain ⟨i, hi, rfl, HF, HX⟩ := hrel
  by_cases hlt : i < l.length
  ·obtain ⟨b, o, rfl, hSb, hrow⟩ := HL.out (by omega)
   obtain ⟨x, hx⟩ : ∃ x, l[i]? = some x := ⟨_, List.getElem?_eq_getElem hlt⟩
   obtain ⟨cs, hca, hxa⟩ := hrow i x hx
   obtain ⟨_, _, _, _, ⟨pv, k2, hpv⟩, _⟩ := zd6 hca hxa
   obtain ⟨A1, c1, rfl, ⟨p0, p1, p2⟩, hpr⟩ := hpv
   rw [zaq] at p0
   rw [zaj] at p2
   have Hx := q_ hx
   have Hlt := q_ hlt
   have K2 := q_ (show w.cell? ⟨b, o + i * 11 + 2, none⟩ = _ from k2)
   have HPr := q_ hpr
   clear hx hca hxa hrow k2 hpr
   go_wp2_with fail
   obtain ⟨wo, hwo⟩ : ∃ wo : World, wo = wr := ⟨_, rfl⟩
   subst hwo
   go_loopw [6] (fun q' wr => ∃ q : Nat, q ≤ x.ps.length ∧ q' = .int .i64 q ∧ Hid (Fill2 l w.heap.size i q x wr) ∧ Hid (Ext w wr)) (fun q' _ => x.ps.length - (intOf q').toNat)
   case atStart => exact ⟨0, Nat.zero_le _, rfl, q_ (by obtain ⟨t, h1, h2, h3⟩ := HF.out; exact ⟨t, h1, h2, h3, fun j u p h => by omega⟩), HX⟩
   case round =>
    clear HF HX
    obtain ⟨q, hq, rfl, HF, HX⟩ := hrel
    have k2 := HX.out.cell K2.out
    by_cases hqt : q < x.ps.length
    ·obtain ⟨b2, o2, rfl, hSb2, hrow2⟩ := HPr.out (by omega)
     obtain ⟨y, hy⟩ : ∃ y, x.ps[q]? = some y := ⟨_, List.getElem?_eq_getElem hqt⟩
     obtain ⟨cs2, hca2, rfl, hfy⟩ := hrow2 q y hy
     have c0 : wr.cell? ⟨b2, o2 + q * 2, none⟩ = some (.string y.1) := HX.out.cell (hca2 0 _ rfl)
     have c1' : wr.cell? ⟨b2, o2 + q * 2 + 1, none⟩ = some (.string y.2) := HX.out.cell (hca2 1 _ rfl)
     have Hy := q_ hy
     clear hy hca2 hrow2 hfy
     go_wp2_with fail
     refine (find5_ok S l _ y wr (fun b hb => Nat.lt_of_lt_of_le (HS.out b hb) HX.out.size) (HL'.out.alike (Alike.of_ext HX.out HS.out))).mono ?_
     rintro e w3 ⟨rfl, hx3⟩
     have HF3 := q_ (HF.out.ext hx3)
     have HX3 := q_ (HX.out.trans hx3)
     clear hx3 HF HX c0 c1' k2
     cases hf : idx (l.map Ent.uid) y with
     | none =>
      rw [ze8 hf]
      have HF4 := q_ (HF3.out.not Hy.out hf)
      clear hf
      go_wp2_with fail
      go_roundw
      case rel => exact ⟨q + 1, by omega, by go_num, HF4, HX3⟩
      case measure => simp [intOf]; omega
     | some p =>
      rw [zdf hf]
      have hp : p < l.length := by have := idx_lt hf; simpa using this
      obtain ⟨m, hm⟩ : ∃ m, i * l.length = m := ⟨_, rfl⟩
      have hmp : m + p < nn := by rw [← hm, ← Hnn.out]; exact sq_lt Hlt.out hp
      have e1 : (i : Int) * (l.length : Int) = (m : Int) := by rw [← hm]; simp
      have HF4 := Fill2.one Hx.out HF3.out Hy.out hf Hlt.out hp
      rw [hm] at HF4
      have HF4 := q_ HF4
      obtain ⟨t, ht, _⟩ := HF3.out
      have d1 := ht.cell Hlt.out hp
      rw [hm] at d1
      have d2 := ht.free (m + p)
      have d3 := ht.lt
      have q1 : ((m : Int) + (p : Int)).toNat = m + p := by omega
      clear hf hm ht
      go_wp2_with fail
      go_roundw
      case rel => exact ⟨q + 1, by omega, by go_num, HF4, q_ (zav HX3.out (GrownBy.setCell w3 w.heap.size (m + p) _) fun b hb => by injection hb with hb; omega)⟩
      case measure => simp [intOf]; omega
    ·have hqe : q = x.ps.length := by omega
     subst hqe
     have HF4 : Hid (Fill1 l w.heap.size (i + 1) wr) := q_ (by obtain ⟨t, h1, h2, h3, h4⟩ := HF.out; exact ⟨t, h1, h2, h4.edg Hx.out h3⟩)
     clear HF
     go_wp2_with fail
     go_roundw
     case rel => exact ⟨i + 1, by have := Hlt.out; omega, by go_num, HF4, HX⟩
     case measure => have := Hlt.out; simp [intOf]; omega
  ·have HF0 : Hid (Fill3 l w.heap.size 0 wr) := q_ (by obtain ⟨t, h1, h2, h3⟩ := HF.out; rw [show i = l.length by omega] at h3; exact ⟨t, h1, h2, h3.cpl⟩)
   clear HF
   go_wp2_with fail
   obtain ⟨wo, hwo⟩ : ∃ wo : World, wo = wr := ⟨_, rfl⟩
   subst hwo
   go_loopw [8] (fun k' wr => ∃ k : Nat, k ≤ l.length ∧ k' = .int .i64 k ∧ Hid (Fill3 l w.heap.size k wr) ∧ Hid (Ext w wr)) (fun k' _ => l.length - (intOf k').toNat)
   case atStart => exact ⟨0, Nat.zero_le _, rfl, HF0, HX⟩
   case round =>
    clear HF0 HX
    obtain ⟨k, hk, rfl, HF, HX⟩ := hrel
    by_cases hkt : k < l.length
    ·have Hkt := q_ hkt
     go_wp2_with fail
     obtain ⟨wo2, hwo⟩ : ∃ wo2 : World, wo2 = wr := ⟨_, rfl⟩
     subst hwo
     go_loopw [9] (fun i' wr => ∃ i : Nat, i ≤ l.length ∧ i' = .int .i64 i ∧ Hid (Fill4 l w.heap.size k i 0 wr) ∧ Hid (Ext w wr)) (fun i' _ => l.length - (intOf i').toNat)
     case atStart => exact ⟨0, Nat.zero_le _, rfl, q_ (by obtain ⟨t, h1, h2, h3⟩ := HF.out; exact ⟨t, h1, h2, h3, Row.zero⟩), HX⟩
     case round =>
      clear HF HX
      obtain ⟨i, hi, rfl, HF, HX⟩ := hrel
      by_cases hit : i < l.length
      ·have Hit := q_ hit
       go_wp2_with fail
       obtain ⟨wo3, hwo⟩ : ∃ wo3 : World, wo3 = wr := ⟨_, rfl⟩
       subst hwo
       go_loopw [10] (fun j' wr => ∃ j : Nat, j ≤ l.length ∧ j' = .int .i64 j ∧ Hid (Fill4 l w.heap.size k i j wr) ∧ Hid (Ext w wr)) (fun j' _ => l.length - (intOf j').toNat)
       case atStart => exact ⟨0, Nat.zero_le _, rfl, HF, HX⟩
       case round =>
        clear HF HX
        obtain ⟨j, hj, rfl, HF, HX⟩ := hrel
        by_cases hjt : j < l.length
        ·obtain ⟨m, hm⟩ : ∃ m, i * l.length = m := ⟨_, rfl⟩
         obtain ⟨m2, hm2⟩ : ∃ m2, k * l.length = m2 := ⟨_, rfl⟩
         have h1 : m + k < nn := by rw [← hm, ← Hnn.out]; exact sq_lt Hit.out Hkt.out
         have h2 : m2 + j < nn := by rw [← hm2, ← Hnn.out]; exact sq_lt Hkt.out hjt
         have h3 : m + j < nn := by rw [← hm, ← Hnn.out]; exact sq_lt Hit.out hjt
         have e1 : (i : Int) * (l.length : Int) = (m : Int) := by rw [← hm]; simp
         have e2 : (k : Int) * (l.length : Int) = (m2 : Int) := by rw [← hm2]; simp
         have q1 : ((m : Int) + (k : Int)).toNat = m + k := by omega
         have q2 : ((m2 : Int) + (j : Int)).toNat = m2 + j := by omega
         have q3 : ((m : Int) + (j : Int)).toNat = m + j := by omega
         obtain ⟨t, ht, hs, hc, hr⟩ := HF.out
         have c1 := ht.cell Hit.out Hkt.out
         have c2 := ht.cell Hkt.out hjt
         have c3 := ht.cell Hit.out hjt
         rw [hm] at c1 c3
         rw [hm2] at c2
         have c4 := ht.free (m + j)
         have c5 := ht.lt
         cases hb1 : t i k with
         | false =>
          rw [hb1] at c1
          have HF4 : Hid (Fill4 l w.heap.size k i (j + 1) wr) := q_ ⟨t, ht, hs, hc, hr.no hc Hkt.out Hit.out hjt fun h => by rw [hb1] at h; cases h.1⟩
          clear hb1 ht hs hc hr hm hm2 HF c2 c3 c4 c5
          go_wp2_with fail
          go_roundw
          case rel => exact ⟨j + 1, by omega, by go_num, HF4, HX⟩
          case measure => simp [intOf]; omega
         | true =>
          rw [hb1] at c1
          cases hb2 : t k j with
          | false =>
           rw [hb2] at c2
           have HF4 : Hid (Fill4 l w.heap.size k i (j + 1) wr) := q_ ⟨t, ht, hs, hc, hr.no hc Hkt.out Hit.out hjt fun h => by rw [hb2] at h; cases h.2⟩
           clear hb1 hb2 ht hs hc hr hm hm2 HF c3 c4 c5
           go_wp2_with fail
           go_roundw
           case rel => exact ⟨j + 1, by omega, by go_num, HF4, HX⟩
           case measure => simp [intOf]; omega
          | true =>
           rw [hb2] at c2
           have hf4 := Fill4.yes ht hs hc hr Hkt.out Hit.out hjt hb1 hb2
           rw [hm] at hf4
           have HF4 := q_ hf4
           clear hb1 hb2 ht hs hc hr hm hm2 HF hf4
           go_wp2_with fail
           go_roundw
           case rel => exact ⟨j + 1, by omega, by go_num, HF4, q_ (zav HX.out (GrownBy.setCell wr w.heap.size (m + j) _) fun b hb => by injection hb with hb; omega)⟩
           case measure => simp [intOf]; omega
        ·have HF4 : Hid (Fill4 l w.heap.size k (i + 1) 0 wr) := q_ (by obtain ⟨t, h1, h2, h3, h4⟩ := HF.out; rw [show j = l.length by omega] at h4; exact ⟨t, h1, h2, h3, h4.next⟩)
         clear HF
         go_wp2_with fail
         go_roundw
         case rel => exact ⟨i + 1, by have := Hit.out; omega, by go_num, HF4, HX⟩
         case measure => have := Hit.out; simp [intOf]; omega
      ·have HF4 : Hid (Fill3 l w.heap.size (k + 1) wr) := q_ (by obtain ⟨t, h1, h2, h3, h4⟩ := HF.out; rw [show i = l.length by omega] at h4; exact ⟨t, h1, h2, h4.last h3⟩)
       clear HF
       go_wp2_with fail
       go_roundw
       case rel => exact ⟨k + 1, by have := Hkt.out; omega, by go_num, HF4, HX⟩
       case measure => have := Hkt.out; simp [intOf]; omega
    ·have HF4 : Hid (Fill3 l w.heap.size l.length wr) := q_ (by have h := HF.out; rwa [show k = l.length by omega] at h)
     clear HF
     go_wp2_with fail
     go_ret
     exact ⟨_, rfl, Nat.le_refl _, HF4.out, HX.out⟩
end Go.Proofs.YtebfoimbdljbmaaGreatDoor

/-
  The reference's Round: whether some are above themselves. The conditions: the entities lie in memory as they should, are few, and no name is there twice.
-/
namespace Go.Proofs.YtebfoimbdljbmaaGreatDoor
open Go.RowKit
open Lib renaming hid → q_
set_option maxRecDepth 100000
set_option maxHeartbeats 1600000
theorem round5_ok (S : Nat → Prop) (l : List Ent) (v : Value) (w : World) (hS : ∀ b, S b → b < w.heap.size) (hl : entR.RowsAt S w l v) (h20 : l.length ≤ 1000) (hn : (l.map Ent.uid).Nodup) :
  Calls Tryz.prog 41 #[v] w fun e w' => ∃ r : Bool, e = .returned (.bool r) ∧ (r = true ↔ Rounded l) ∧ Ext w w' := by
 have hl' := hl
 obtain ⟨A, cap, rfl, ⟨hl0, hl1, hl2⟩, hlr⟩ := hl
 clear hl0
 rw [zaj] at hl2
 obtain ⟨nn, hnn⟩ : ∃ nn, l.length * l.length = nn := ⟨_, rfl⟩
 have hnn2 : nn ≤ 1000 * 1000 := by rw [← hnn]; exact Nat.mul_le_mul h20 h20
 have hA := above5_ok S l _ w hS hl' h20
 simp only [hnn] at hA
 have HA := q_ hA
 have HS := q_ hS
 have HL := q_ hlr
 have HL' := q_ hl'
 have HN := q_ hn
 have Hnn := q_ hnn
 clear hS hlr hl' hnn hn hA
 go_enter Tryz.func41, Tryz.ntmps41
 go_wp2_with fail
 refine HA.out.mono ?_
 rintro e w1 ⟨g, rfl, hg, hF, hx1⟩
 have HF := q_ hF
 have HX1 := q_ hx1
 clear hF hx1 HA
 go_wp2_with fail
 go_loopw [4] (fun i' wr => ∃ i : Nat, i ≤ l.length ∧ i' = .int .i64 i ∧ Hid (Ext w1 wr) ∧ Hid (∀ a, a < i → ¬ Via (EdgeN l) l.length a a)) (fun i' _ => l.length - (intOf i').toNat)
 case atStart => exact ⟨0, Nat.zero_le _, rfl, q_ (Ext.refl _), q_ fun _ h => by omega⟩
 case round =>
  obtain ⟨i, hi, rfl, HX, HV⟩ := hrel
  by_cases hlt : i < l.length
  ·obtain ⟨b, o, rfl, hSb, hrow⟩ := HL.out (by omega)
   obtain ⟨x, hx⟩ : ∃ x, l[i]? = some x := ⟨_, List.getElem?_eq_getElem hlt⟩
   obtain ⟨cs, hca, hxa⟩ := hrow i x hx
   obtain ⟨k0, k1, _⟩ := zd6 hca hxa
   have HXw := q_ (HX1.out.trans HX.out)
   have c0 : wr.cell? ⟨b, o + i * 11, none⟩ = some (.string x.uid.1) := HXw.out.cell k0
   have c1 : wr.cell? ⟨b, o + i * 11 + 1, none⟩ = some (.string x.uid.2) := HXw.out.cell k1
   have hix : idx (l.map Ent.uid) x.uid = some i := zbc HN.out (by rw [List.getElem?_map, hx]; rfl)
   have Hlt := q_ hlt
   have Hix := q_ hix
   clear hx hca hxa hrow k0 k1 hix
   go_wp2_with fail
   refine (find5_ok S l _ x.uid wr (fun b hb => Nat.lt_of_lt_of_le (HS.out b hb) HXw.out.size) (HL'.out.alike (Alike.of_ext HXw.out HS.out))).mono ?_
   rintro e w3 ⟨rfl, hx3⟩
   rw [zdf Hix.out]
   have HX3 := q_ (HX.out.trans hx3)
   obtain ⟨m, hm⟩ : ∃ m, i * l.length = m := ⟨_, rfl⟩
   have hmp : m + i < nn := by rw [← hm, ← Hnn.out]; exact sq_lt Hlt.out Hlt.out
   have e1 : (i : Int) * (l.length : Int) = (m : Int) := by rw [← hm]; simp
   have q1 : ((m : Int) + (i : Int)).toNat = m + i := by omega
   obtain ⟨t, ht, hs, hc⟩ := HF.out
   have d1 := (ht.ext HX3.out).cell Hlt.out Hlt.out
   rw [hm] at d1
   have HIff := q_ (full_iff hs hc Hlt.out Hlt.out)
   generalize t i i = tb at *
   clear ht hs hc hx3 hm c0 c1
   cases tb with
   | true =>
    go_wp2_with fail
    go_ret
    exact ⟨true, rfl, ⟨fun _ => (rounded_via HN.out).2 ⟨i, Hlt.out, by simpa using HIff.out⟩, fun _ => rfl⟩, HX1.out.trans HX3.out⟩
   | false =>
    go_wp2_with fail
    go_roundw
    case rel => exact ⟨i + 1, by have := Hlt.out; omega, by go_num, HX3, q_ fun a ha hv => by
     by_cases he : a = i
     ·subst he; have h := HIff.out; simp at h; exact h hv
     ·exact HV.out a (by omega) hv⟩
    case measure => have := Hlt.out; simp [intOf]; omega
  ·go_wp2_with fail
   go_ret
   refine ⟨false, rfl, ⟨fun h => (nomatch h), fun h => ?_⟩, HX1.out.trans HX.out⟩
   obtain ⟨a, ha, hv⟩ := (rounded_via HN.out).1 h
   exact absurd hv (HV.out a (by omega))
end Go.Proofs.YtebfoimbdljbmaaGreatDoor

/-
  The reference's entity as it must be. The conditions: the entities lie in memory as they should, none is nested deeper than a million.
-/
namespace Go.Proofs.YtebfoimbdljbmaaGreatDoor
open Go.RowKit
open Lib renaming hid → q_
set_option maxRecDepth 100000
set_option maxHeartbeats 4000000
theorem Val.At.kind_is {S : Nat → Prop} {w : World} {v : Val} {k : Int} {cs : List Value} (h : Val.At S w v (.int .i64 k :: cs)) : v.kind = k := by
 cases v with
 | mk kd bo n t ut ui items names =>
  unfold Val.At at h
  obtain ⟨_, _, _, e, _⟩ := h
  injection e with e _
  injection e with _ e
  exact e.symm
theorem zdm {u : Uid} {v : Value} {av : List Value} (hv : v.oneCell' = true) (h : ∀ x ∈ av, x.oneCell' = true) : ∀ x ∈ zap u v av, x.oneCell' = true := fun x hx => by
 simp only [zap, List.mem_cons] at hx
 rcases hx with rfl | rfl | rfl | hx
 ·rfl
 ·rfl
 ·exact hv
 ·exact h x hx
theorem ze2 {P : Program} {o : Oper} {a : Act} {w : World} {K : Act → World → Prop} {Q : Exit → Act → World → Prop} (ty : TypeId) (x y : Operand) (ho : o.op = .store ty x y)
  (g off : Nat) (hx : a.eval x = .pointer (some ⟨g, off, none⟩)) (A : Option Addr) (n c : Nat) (hy : a.eval y = .slice A n c) (hz : ∀ w, (Go.sizeOf ty).run P w = .ok 1 w)
  (T : TypeId) (cur : Array Value) (hg : w.heap[g]? = some (.cells cur T (0, 0))) (hl : off < cur.size)
  (hk : ∀ w', w'.heap[g]? = some (.cells (cur.setIfInBounds off (.slice A n c)) T (0, 0)) → GrownBy w w' (some g) → K (a.put o.dst undef) w') : o.wp P a w K Q := by
 have hst := run_storeCells_at (P := P) g off T [Value.slice A n c] 0 cur w hg (by simp; omega) (by simp [Value.oneCell'])
 simp only [Nat.add_zero] at hst
 have hst' : ∃ w', (storeVar ty ⟨g, off, none⟩ (.slice A n c)).run P w = .ok () w' ∧ w'.heap[g]? = some (.cells (cur.setIfInBounds off (.slice A n c)) T (0, 0)) ∧ GrownBy w w' (some g) := by
  refine ⟨w.setRow g (cur.toList.take off ++ [Value.slice A n c] ++ cur.toList.drop (off + 1)).toArray, ?_, ?_, GrownBy.setRow _ _ _⟩
  ·simpa [storeVar, hz, Value.cells] using hst
  ·rw [zbi hg]
   congr 2
   apply Array.ext_getElem?
   intro i
   simp only [List.getElem?_toArray, Array.getElem?_setIfInBounds]
   rcases Nat.lt_trichotomy i off with h | h | h
   ·rw [List.append_assoc, List.getElem?_append_left (by simp; omega), List.getElem?_take, if_pos h, if_neg (by omega)]; simp
   ·subst h
    have hm : (cur.toList.take i).length = i := by simp; omega
    rw [List.append_assoc, List.getElem?_append_right (by omega), hm, if_pos rfl, if_pos hl]
    simp
   ·rw [List.getElem?_append_right (by simp; omega), if_neg (by omega), List.getElem?_drop]
    simp
    congr 1
    omega
 obtain ⟨w', h1, h2, h3⟩ := hst'
 unfold Oper.wp execOp
 simp only [ho, hx, hy, Instr.storeAt, Instr.sureAddr, Sem.run_bind, Sem.run_pure, Result.andThen_ok, h1]
 exact hk w' h2 h3
def OneErr (us : List Uid) (x : Ent) (w : World) (e : Ending) (w' : World) : Prop :=
 ∃ (y : Ent) (cs : List Value), e = .returned (.tuple #[.agg cs.toArray, .int .i64 (oneE us x).2]) ∧ entR.At (Fresh w.heap.size w') w' y cs ∧ ((oneE us x).2 = 0 → y = (oneE us x).1) ∧ Ext w w'
theorem oneE_missing {us : List Uid} {x : Ent} (h : x.av.kind = 6) (hb : x.av.canon.2 = 0) {k : Nat} {p : Uid} (hp : x.ps[k]? = some p) (hn : idx us p = none) : (oneE us x).2 = 20 :=
 zdy h hb (List.any_eq_true.2 ⟨p, List.mem_of_getElem? hp, by rw [hn]; rfl⟩)
theorem oneE_all {us : List Uid} {x : Ent} (h : x.av.kind = 6) (hb : x.av.canon.2 = 0) (hp : ∀ p ∈ x.ps, idx us p ≠ none) : oneE us x = (⟨x.uid, sortU ordU x.ps, x.av.canon.1⟩, 0) :=
 oneE_good h hb (List.any_eq_false.2 fun p hm => by
  cases hi : idx us p with
  | none => exact absurd hi (hp p hm)
  | some i => simp)
structure OutAt (w w4 : World) (x : Ent) (avc : List Value) (acc : List Uid) (pv : Value) (W : World) : Prop where
 box : W.heap[w.heap.size + 1 + 1]? = some (.cells (zap x.uid pv avc).toArray 87 (0, 0))
 own : OwnL uidR 23 w4.heap.size W pv acc
 grown : GrownBy w4 W (some (w.heap.size + 1 + 1))
def StagePut (w w4 : World) (x : Ent) (avc : List Value) (acc : List Uid) (y : Uid) (pv : Value) : List Value → World → Prop
 | [], W => OutAt w w4 x avc acc pv W
 | [v1], W => v1 = pv ∧ OutAt w w4 x avc acc pv W
 | [_, v2], W => OutAt w w4 x avc acc pv W ∧ OwnL uidR 23 w4.heap.size W v2 (ze1 y false acc)
 | [_, v2, _], W => OutAt w w4 x avc (ze1 y false acc) v2 W
 | _, _ => False
theorem OutAt.ext {w w4 : World} {x : Ent} {avc : List Value} {acc : List Uid} {pv : Value} {W W' : World} (h : OutAt w w4 x avc acc pv W) (k : Ext W W') : OutAt w w4 x avc acc pv W' :=
 ⟨(k.block _ (zaf h.box)).trans h.box, h.own.ext k, h.grown.trans (GrownBy.of_ext _ k)⟩
theorem StagePut.grown {w w4 : World} {x : Ent} {avc : List Value} {acc : List Uid} {y : Uid} {pv : Value} {vs : List Value} {W : World} (h : StagePut w w4 x avc acc y pv vs W) : GrownBy w4 W (some (w.heap.size + 1 + 1)) := by
 match vs, h with
 | [], h => exact OutAt.grown h
 | [_], h => exact h.2.grown
 | [_, _], h => exact h.1.grown
 | [_, _, _], h => exact OutAt.grown h
 | _ :: _ :: _ :: _ :: _, h => exact h.elim
theorem ownU_apart {w w' : World} {base : Nat} {v : Value} {l : List Uid} {r : Option Nat} (h : OwnL uidR 23 base w v l) (k : GrownBy w w' r) (hr : ∀ b, v.ownBlock = some b → r ≠ some b) : OwnL uidR 23 base w' v l := by
 obtain ⟨xs, h1, h2⟩ := h
 exact ⟨xs, zau h1 k hr, zby h2⟩
theorem ze7 {P : Program} {ops : Array Oper} {rest : List Oper} {op : Oper} {a : Act} {w : World} {Q : Exit → Act → World → Prop} (hgd : op.guard = none) (ty : TypeId) (x y : Operand) (ho : op.op = .store ty x y)
  (g off : Nat) (hx : a.eval x = .pointer (some ⟨g, off, none⟩)) (cs : List Value) (hy : a.eval y = .agg cs.toArray) {n : Nat} (hz : ∀ w, (Go.sizeOf ty).run P w = .ok n w) (hn : cs.length = n)
  (T : TypeId) (cur : Array Value) (hg : w.heap[g]? = some (.cells cur T (0, 0))) (hl : off + cs.length ≤ cur.size) (h1 : ∀ v ∈ cs, v.oneCell' = true)
  (hk : ∀ w', w'.heap[g]? = some (.cells (cur.toList.take off ++ cs ++ cur.toList.drop (off + cs.length)).toArray T (0, 0)) → GrownBy w w' (some g) → wpList P ops Q rest (a.put op.dst undef) w') : wpList P ops Q (op :: rest) a w :=
 zad hgd ty x y ho g off hx cs hy hz hn T cur hg hl h1 (hk _ (zbi hg _) (GrownBy.setRow _ _ _))
theorem zbt {P : Program} {ops : Array Oper} {rest : List Oper} {op : Oper} {a : Act} {w : World} {Q : Exit → Act → World → Prop} (hgd : op.guard = none) (ty : TypeId) (x y : Operand) (ho : op.op = .store ty x y)
  (g : Nat) (hx : a.eval x = .pointer (some ⟨g, 0, none⟩)) (cs : List Value) (hy : a.eval y = .agg cs.toArray) {n : Nat} (hz : ∀ w, (Go.sizeOf ty).run P w = .ok n w) (hn : cs.length = n)
  (T : TypeId) (cur : Array Value) (hg : w.heap[g]? = some (.cells cur T (0, 0))) (hl : cs.length = cur.size) (h1 : ∀ v ∈ cs, v.oneCell' = true)
  (hk : ∀ w', w'.heap[g]? = some (.cells cs.toArray T (0, 0)) → GrownBy w w' (some g) → wpList P ops Q rest (a.put op.dst undef) w') : wpList P ops Q (op :: rest) a w :=
 zb7 hgd ty x y ho g hx cs hy hz hn T cur hg hl h1 fun w' e => by subst e; exact hk _ (zbi hg _) (GrownBy.setRow _ _ _)
theorem lst10 {α : Type} {l : List α} (h : l.length = 10) : ∃ a0 a1 a2 a3 a4 a5 a6 a7 a8 a9, l = [a0, a1, a2, a3, a4, a5, a6, a7, a8, a9] := by
 match l, h with
 | [_, _, _, _, _, _, _, _, _, _], _ => exact ⟨_, _, _, _, _, _, _, _, _, _, rfl⟩
theorem told {x : Ent} {us : List Uid} {w w4 W W' : World} {avc : List Value} {acc : List Uid} {pv : Value} {av : Val} {er : Int} (h : OutAt w w4 x avc acc pv W) (hfu : FitU x.uid) (hacc : acc.length ≤ LIM) (hav : Val.At (fun b => w.heap.size + 1 + 1 < b ∧ b < w4.heap.size) w4 av avc) (hx4 : Ext w w4) (hb : w.heap.size + 1 + 1 < w4.heap.size)
  (hg : GrownBy W W' (some (w.heap.size + 1))) (her : er = (oneE us x).2) (hy : (oneE us x).2 = 0 → Ent.mk x.uid acc av = (oneE us x).1) :
  OneErr us x w (.returned (.tuple #[.agg (zap x.uid pv avc).toArray, .int .i64 er])) W' := by
 have hs := h.grown.size
 have hs2 := hg.size
 refine ⟨⟨x.uid, acc, av⟩, _, by rw [her]; rfl, ⟨pv, avc, rfl, hfu, ?_, ?_⟩, hy, ?_⟩
 ·obtain ⟨xs, o1, o2⟩ := h.own
  have o3 := zau o1 hg fun b hb e => by have := (o1.lt b hb).1; injection e with e; omega
  exact zet (R := uidR) o3 (zby (S' := fun _ => False) o2) hacc (fun b hb => hb.elim) fun b hb => by have h1 := o1.lt b hb; have h2 := hx4.size; exact ⟨by omega, by omega⟩
 ·refine Val.At.mono (S := fun b => w.heap.size + 1 + 1 < b ∧ b < w4.heap.size) ?_ _ _ (hav.alike (w' := W') fun b hb => ?_)
  ·intro b hb'; have := hx4.size; exact ⟨by omega, by omega⟩
  ·rw [hg.block b (by omega) (fun e => by injection e with e; omega), h.grown.block b hb.2 (fun e => by injection e with e; omega)]
 ·exact zav (zav hx4 h.grown fun b e => by injection e with e; omega) hg fun b e => by injection e with e; omega
theorem one5_ok (S : Nat → Prop) (l : List Ent) (x : Ent) (v : Value) (cs : List Value) (w : World) (hS : ∀ b, S b → b < w.heap.size) (hl : entR.RowsAt S w l v) (hx : entR.At S w x cs) (hd : x.av.dep ≤ 1000000) (hps : x.ps.length ≤ 1000) :
  Calls Tryz.prog 39 #[v, .agg cs.toArray] w (OneErr (l.map Ent.uid) x w) := by
 have HS := q_ hS
 have HL := q_ hl
 have HD := q_ hd
 obtain ⟨A, cap, rfl, ⟨hl0, hl1, hl2⟩, _⟩ := hl
 rw [zaj] at hl2
 obtain ⟨pv, acs, rfl, hfu, hpr, hat⟩ := hx
 obtain ⟨A1, c1, rfl, ⟨p0, p1, p2⟩, hrow⟩ := hpr
 rw [zaj] at p2
 obtain ⟨ka, ba, na, ta, uta, uia, Aa, la, ca, Ab, lb, cb, rfl⟩ := hat.shape
 have HK := q_ hat.kind_is
 have Hat := q_ hat
 have HFu := q_ hfu
 have HRow := q_ hrow
 clear hS hd hl0 p0 hfu hat hrow
 go_enter Tryz.func39, Tryz.ntmps39
 by_cases hk6 : ka = 6
 ·subst hk6
  go_wp2_with fail
  obtain ⟨W0, hW0⟩ : ∃ W0, W0 = ((w.alloc (.cells (zap x.uid (.slice A1 x.ps.length c1) [.int .i64 6, .bool ba, .int .i64 na, .string ta, .string uta, .string uia, .slice Aa la ca, .slice Ab lb cb]).toArray 87)).alloc (.cells (zap (ByteArray.empty, ByteArray.empty) (.slice none 0 0) zeroCells).toArray 87)).alloc (.cells (zap x.uid (.slice none 0 0) zeroCells).toArray 87) := ⟨_, rfl⟩
  have q0 : W0.heap[w.heap.size]? = some (.cells (zap x.uid (.slice A1 x.ps.length c1) [.int .i64 6, .bool ba, .int .i64 na, .string ta, .string uta, .string uia, .slice Aa la ca, .slice Ab lb cb]).toArray 87 (0, 0)) := by
   rw [hW0, heap_alloc_old _ _ (by simp; omega), heap_alloc_old _ _ (by simp)]; exact heap_alloc_new _ _
  have q1 : W0.heap[w.heap.size + 1]? = some (.cells (zap (ByteArray.empty, ByteArray.empty) (.slice none 0 0) zeroCells).toArray 87 (0, 0)) := by
   rw [hW0, heap_alloc_old _ _ (by simp)]; exact zba (by simp) _
  have q2 : W0.heap[w.heap.size + 1 + 1]? = some (.cells (zap x.uid (.slice none 0 0) zeroCells).toArray 87 (0, 0)) := by
   rw [hW0]; exact zba (by simp) _
  have qx : Ext w W0 := by rw [hW0]; exact (((Ext.refl w).alloc _).alloc _).alloc _
  have qs : W0.heap.size = w.heap.size + 1 + 1 + 1 := by rw [hW0]; simp
  change Calls Tryz.prog _ _ (((w.alloc (.cells (zap x.uid (.slice A1 x.ps.length c1) [.int .i64 6, .bool ba, .int .i64 na, .string ta, .string uta, .string uia, .slice Aa la ca, .slice Ab lb cb]).toArray 87)).alloc (.cells (zap (ByteArray.empty, ByteArray.empty) (.slice none 0 0) zeroCells).toArray 87)).alloc (.cells (zap x.uid (.slice none 0 0) zeroCells).toArray 87)) _
  rw [← hW0]
  have HSW : Hid (∀ b, S b → b < W0.heap.size) := q_ fun b hb => Nat.lt_of_lt_of_le (HS.out b hb) qx.size
  have HatW := q_ (Hat.out.alike (Alike.of_ext qx HS.out))
  have Q0 := q_ q0
  have Q1 := q_ q1
  have Q2 := q_ q2
  have QX := q_ qx
  have QS := q_ qs
  clear q0 q1 q2 qx qs hW0
  refine (canon_okR x.av S W0 [_, _, _, _, _, _, _, _] HD.out HSW.out HatW.out).mono ?_
  rintro e w3 ⟨cs3, rfl, hat3, hx3⟩
  obtain ⟨r0, r1, r2, r3, r4, r5, r6, r7, r8, r9, ra, rb, rfl⟩ := hat3.shape
  have HX3 := q_ hx3
  have HA3 := q_ hat3
  clear hx3 hat3
  obtain ⟨w4, hw4⟩ : ∃ w4, w4 = w3.alloc (.cells [.int .i64 r0, .bool r1, .int .i64 r2, .string r3, .string r4, .string r5, .slice r6 r7 r8, .slice r9 ra rb].toArray 27) := ⟨_, rfl⟩
  have x34 : Ext w3 w4 := by rw [hw4]; exact (Ext.refl w3).alloc _
  have x04 : Ext W0 w4 := HX3.out.trans x34
  have HX4 := q_ (QX.out.trans x04)
  have Hb4 : Hid (w.heap.size + 1 + 1 < w4.heap.size) := q_ (by have := x04.size; have := QS.out; omega)
  have HB0 := q_ ((x04.block _ (zaf Q0.out)).trans Q0.out)
  have HB1 := q_ ((x04.block _ (zaf Q1.out)).trans Q1.out)
  have HB2 := q_ ((x04.block _ (zaf Q2.out)).trans Q2.out)
  have HB7 : Hid (w4.heap[w3.heap.size]? = some (.cells [.int .i64 r0, .bool r1, .int .i64 r2, .string r3, .string r4, .string r5, .slice r6 r7 r8, .slice r9 ra rb].toArray 27 (0, 0))) := q_ (by rw [hw4]; exact heap_alloc_new _ _)
  have HA4 : Hid (Val.At (fun b => w.heap.size + 1 + 1 < b ∧ b < w4.heap.size) w4 x.av.canon.1 [.int .i64 r0, .bool r1, .int .i64 r2, .string r3, .string r4, .string r5, .slice r6 r7 r8, .slice r9 ra rb]) := q_ (Val.At.mono (S := Fresh W0.heap.size w3) (fun b hb => by
   have h1 := hb.1; have h2 := hb.2; have h3 := QS.out; have h4 := x34.size
   exact ⟨by omega, by omega⟩) _ _ (HA3.out.alike (Alike.of_ext x34 fun b hb => hb.2)))
  clear x34 x04
  subst hw4
  by_cases hbv : x.av.canon.2 = 0
  ·have t7 : (x.av.canon.2 != 0) = false := by simpa using hbv
   have Hbv := q_ hbv
   clear hbv
   go_wp2_with (refine ze7 rfl 27 _ _ rfl (w.heap.size + 1 + 1) 3 rfl [.int .i64 r0, .bool r1, .int .i64 r2, .string r3, .string r4, .string r5, .slice r6 r7 r8, .slice r9 ra rb] rfl zaa rfl 87 (zap x.uid (.slice none 0 0) zeroCells).toArray HB2.out (by simp [zap, zeroCells]) (by simp [Value.oneCell']) ?_; intro w5 hb5 hg5)
   have HOut0 : Hid (OutAt w (w3.alloc (.cells [.int .i64 r0, .bool r1, .int .i64 r2, .string r3, .string r4, .string r5, .slice r6 r7 r8, .slice r9 ra rb].toArray 27)) x [.int .i64 r0, .bool r1, .int .i64 r2, .string r3, .string r4, .string r5, .slice r6 r7 r8, .slice r9 ra rb] [] (.slice none 0 0) w5) := q_ ⟨hb5, OwnL.nil, hg5⟩
   clear hb5 hg5
   generalize hW4 : (w3.alloc (.cells [.int .i64 r0, .bool r1, .int .i64 r2, .string r3, .string r4, .string r5, .slice r6 r7 r8, .slice r9 ra rb].toArray 27)) = w4 at *
   clear hW4
   go_loopw [9] (fun k' wr => ∃ (k : Nat) (acc : List Uid) (pv : Value), k ≤ x.ps.length ∧ k' = .int .i64 k ∧ Hid (acc = sortU ordU (x.ps.take k)) ∧ acc.length ≤ k ∧ Hid (∀ (j : Nat) (p : Uid), j < k → x.ps[j]? = some p → idx (l.map Ent.uid) p ≠ none) ∧ Hid (OutAt w w4 x [.int .i64 r0, .bool r1, .int .i64 r2, .string r3, .string r4, .string r5, .slice r6 r7 r8, .slice r9 ra rb] acc pv wr)) (fun k' _ => x.ps.length - (intOf k').toNat)
   case atStart => exact ⟨0, [], .slice none 0 0, Nat.zero_le _, rfl, q_ (by simp [sortU]), Nat.le_refl _, q_ fun _ _ h => by omega, HOut0⟩
   case round =>
    clear HOut0
    obtain ⟨k, acc, pv, hk, rfl, HAcc, hal, HAll, HOut⟩ := hrel
    obtain ⟨Ap, cp, epv⟩ := HOut.out.own.shape
    subst epv
    have HXw : Hid (Ext w wr) := q_ (zav HX4.out HOut.out.grown fun b e => by injection e with e; omega)
    have HB0' := q_ ((HOut.out.grown.block _ (zaf HB0.out) (fun e => by injection e with e; omega)).trans HB0.out)
    have HB1' := q_ ((HOut.out.grown.block _ (zaf HB1.out) (fun e => by injection e with e; omega)).trans HB1.out)
    have c2 := cell_of_row _ _ 2 _ _ _ HB0'.out
    simp only [zap, List.getElem?_toArray, List.getElem?_cons_succ, List.getElem?_cons_zero] at c2
    by_cases hlt : k < x.ps.length
    ·obtain ⟨b2, o2, rfl, hSb2, hrow2⟩ := HRow.out (by omega)
     obtain ⟨y, hy⟩ : ∃ y, x.ps[k]? = some y := ⟨_, List.getElem?_eq_getElem hlt⟩
     obtain ⟨cs2, hca2, rfl, hfy⟩ := hrow2 k y hy
     have c0 : wr.cell? ⟨b2, o2 + k * 2, none⟩ = some (.string y.1) := HXw.out.cell (hca2 0 _ rfl)
     have c1' : wr.cell? ⟨b2, o2 + k * 2 + 1, none⟩ = some (.string y.2) := HXw.out.cell (hca2 1 _ rfl)
     have Hca2 := q_ (show CellsAt w b2 (o2 + k * 2) [.string y.1, .string y.2] from hca2)
     have Hb2 := q_ (HS.out b2 hSb2)
     have Hy := q_ hy
     have HFy := q_ hfy
     clear hy hca2 hrow2 hfy hSb2
     go_wp2_with fail
     refine (find5_ok S l _ y wr (fun b hb => Nat.lt_of_lt_of_le (HS.out b hb) HXw.out.size) (HL.out.alike (Alike.of_ext HXw.out HS.out))).mono ?_
     rintro e w6 ⟨rfl, hx6⟩
     have HOut6 := q_ (HOut.out.ext hx6)
     have HB16 := q_ ((hx6.block _ (zaf HB1'.out)).trans HB1'.out)
     have HB06 := q_ ((hx6.block _ (zaf HB0'.out)).trans HB0'.out)
     clear hx6 c0 c1' c2 HOut HB0' HB1' HXw
     cases hf : idx (l.map Ent.uid) y with
     | none =>
      rw [ze8 hf]
      have Hf := q_ (oneE_missing (us := l.map Ent.uid) HK.out Hbv.out Hy.out hf)
      clear hf
      have HOut := HOut6
      have HB1' := HB16
      clear HOut6 HB16
      go_wp2_with (first | (refine zab rfl 87 _ rfl (w.heap.size + 1 + 1) 0 rfl za5 zas rfl (zak HOut.out.box) ?_) | (refine zbt rfl 87 _ _ rfl (w.heap.size + 1) rfl (zap x.uid (.slice Ap acc.length cp) [.int .i64 r0, .bool r1, .int .i64 r2, .string r3, .string r4, .string r5, .slice r6 r7 r8, .slice r9 ra rb]) rfl zas rfl 87 (zap (ByteArray.empty, ByteArray.empty) (.slice none 0 0) zeroCells).toArray HB1'.out rfl (zdm rfl (by simp [Value.oneCell'])) ?_; intro w9 hw9 hg9))
      refine bodyPost_ret (v := .tuple #[.agg (zap x.uid (.slice Ap acc.length cp) [.int .i64 r0, .bool r1, .int .i64 r2, .string r3, .string r4, .string r5, .slice r6 r7 r8, .slice r9 ra rb]).toArray, .int .i64 20]) (zah Tryz.results39 rfl za5 zas rfl (zak hw9)) rfl ?_
      exact told HOut.out HFu.out (by rw [zaq]; omega) HA4.out HX4.out Hb4.out hg9 Hf.out.symm (fun h => absurd (Hf.out.symm.trans h) (by decide))
     | some p =>
      rw [zdf hf]
      have Hf := q_ hf
      clear hf
      go_wp2_with fail
      refine zch 10 [1, 7, 9] [.pointer (some ⟨(w.heap.size + 1 + 1), 2, none⟩), undef, .pointer (some ⟨w.heap.size, 2, none⟩), .slice (some ⟨b2, o2, none⟩) x.ps.length c1, .int .i64 k, .pointer (some ⟨b2, o2 + k * 2, none⟩), .agg #[.string y.1, .string y.2], undef, .pointer (some ⟨(w.heap.size + 1 + 1), 2, none⟩), undef]
       (StagePut w w4 x [.int .i64 r0, .bool r1, .int .i64 r2, .string r3, .string r4, .string r5, .slice r6 r7 r8, .slice r9 ra rb] acc y (.slice Ap acc.length cp)) (by kernel_rfl) (by kernel_rfl) (by kernel_rfl) (by kernel_rfl)
       (HOut6.out.ext (show Ext w6 w6.drew from ⟨⟨rfl, rfl, rfl, Nat.le_refl _, fun _ _ => rfl⟩, Nat.le_succ _⟩)) (fun i op hi hn ho vs W a hRR hold hat => ?_) (fun k' i op hk ho vs W a hvl hRR hold hat Q' K hK => ?_) ?_
      ·have hgW := hRR.grown
       have hb0 : W.heap[w.heap.size]? = _ := (hgW.block _ (zaf HB0.out) (fun e => by injection e with e; omega)).trans HB0.out
       rcases (by simp at hn; omega : i = 0 ∨ i = 2 ∨ i = 3 ∨ i = 4 ∨ i = 5 ∨ i = 6 ∨ i = 8) with rfl | rfl | rfl | rfl | rfl | rfl | rfl <;> obtain rfl := Option.some.inj ho
       ·exact za8 _ _ _ rfl (hold 6 (by kernel_rfl)) (zff (w.heap.size + 1 + 1))
       ·exact za8 _ _ _ rfl (hold 3 (by kernel_rfl)) (zff w.heap.size)
       ·exact za9 _ _ rfl w.heap.size 2 (hat 2 48 (by omega) (by kernel_rfl) (by kernel_rfl)) Tryz.agg58 (by rw [cell_of_row _ _ _ _ _ _ hb0]; rfl)
       ·exact zbd rfl (hold 9 (by kernel_rfl))
       ·exact zc0 (i := k) rfl (hat 3 49 (by omega) (by kernel_rfl) (by kernel_rfl)) (hat 4 50 (by omega) (by kernel_rfl) (by kernel_rfl)) Tryz.underlying50 za6 (by omega)
       ·exact zat _ _ rfl b2 _ (hat 5 51 (by omega) (by kernel_rfl) (by kernel_rfl)) (cs := [.string y.1, .string y.2]) zbh za6 rfl (Hca2.out.alike (S := fun c => c = b2) rfl (fun c hc => by
         subst hc
         have h1 := Hb2.out
         have h2 := HX4.out.size
         rw [hgW.block c (by omega) (fun e => by injection e with e; omega)]
         exact HX4.out.block c h1))
       ·exact za8 _ _ _ rfl (hold 6 (by kernel_rfl)) (zff (w.heap.size + 1 + 1))
      ·have hk4 : k' < 3 := by simpa using (List.getElem?_eq_some_iff.1 hk).1
       rcases (by omega : k' = 0 ∨ k' = 1 ∨ k' = 2) with rfl | rfl | rfl <;> obtain rfl := Option.some.inj hk <;> obtain rfl := Option.some.inj ho
       ·obtain rfl := List.eq_nil_of_length_eq_zero hvl
        have hR0 : OutAt w w4 x [.int .i64 r0, .bool r1, .int .i64 r2, .string r3, .string r4, .string r5, .slice r6 r7 r8, .slice r9 ra rb] acc (.slice Ap acc.length cp) W := hRR
        exact za1 (za9 _ _ rfl (w.heap.size + 1 + 1) 2 (hat 0 46 (by omega) (by kernel_rfl) (by kernel_rfl)) Tryz.agg58 (by rw [cell_of_row _ _ _ _ _ _ hR0.box]; rfl)) (hK _ _ ⟨rfl, hR0⟩)
       ·obtain ⟨v1, rfl⟩ := lst1 hvl
        obtain ⟨rfl, hR0⟩ := hRR
        refine zc3 (Φ := fun v w' => OutAt w w4 x [.int .i64 r0, .bool r1, .int .i64 r2, .string r3, .string r4, .string r5, .slice r6 r7 r8, .slice r9 ra rb] acc (.slice Ap acc.length cp) w' ∧ OwnL uidR 23 w4.heap.size w' v (ze1 y false acc)) (zco Tryz.func74 rfl rfl rfl (map_two (hat 1 47 (by omega) (by kernel_rfl) (by kernel_rfl)) (hat 6 52 (by omega) (by kernel_rfl) (by kernel_rfl)))) ?_ (fun v w' h => hK _ _ h)
        refine (put5_ok (fun b => b < W.heap.size) acc (.slice Ap acc.length cp) y W (fun _ h => h) (hR0.own.rows (by rw [zaq]; omega)) HFy.out (by omega)).mono ?_
        rintro e w' ⟨v', rfl, ho', hx'⟩
        exact ⟨_, rfl, hR0.ext hx', ho'.low hR0.grown.size⟩
       ·obtain ⟨v1, v2, rfl⟩ := lst2 hvl
        obtain ⟨hR0, hO2⟩ := hRR
        obtain ⟨A2, c2, rfl⟩ := hO2.shape
        refine ze2 _ _ _ rfl (w.heap.size + 1 + 1) 2 (hat 8 54 (by omega) (by kernel_rfl) (by kernel_rfl)) A2 (ze1 y false acc).length c2 (hat 7 53 (by omega) (by kernel_rfl) (by kernel_rfl)) (fun _ => by kernel_rfl) 87 _ hR0.box (by simp [zap]) (fun w' hb' hg' => hK _ _ ⟨by rw [hb']; simp [zap], ownU_apart hO2 hg' fun b hb e => ?_, hR0.grown.trans hg'⟩)
        have h1 := (hO2.lt b hb).1
        have h2 := Hb4.out
        injection e with e
        omega
      ·intro zs vs W hzl hvl hRR hzs
       obtain ⟨v1, v2, v3, rfl⟩ := lst3 hvl
       obtain ⟨z0, z1, z2, z3, z4, z5, z6, z7, z8, z9, rfl⟩ := lst10 hzl
       have HOut7 : Hid (OutAt w w4 x [.int .i64 r0, .bool r1, .int .i64 r2, .string r3, .string r4, .string r5, .slice r6 r7 r8, .slice r9 ra rb] (ze1 y false acc) v2 W) := q_ hRR
       have hins : ze1 y false acc = sortU ordU (x.ps.take (k + 1)) := by
        rw [zd1 Hy.out, ← HAcc.out]
        exact putU_ins (by rw [HAcc.out]; exact zbg GoodAt.ordU _)
       have HIns := q_ hins
       have hlen7 : (ze1 y false acc).length ≤ k + 1 := by
        rw [hins]
        exact Nat.le_trans (zcm _) (by rw [List.length_take]; omega)
       clear hzs hzl hvl hRR hins
       simp only [List.take, List.drop, za0]
       go_wp2_with fail
       go_roundw
       case rel => exact ⟨k + 1, _, _, by omega, by go_num, HIns, hlen7, q_ fun j p hj hp => by
        by_cases hjk : j = k
        ·subst hjk; rw [Hy.out] at hp; cases hp; rw [Hf.out]; simp
        ·exact HAll.out j p (by omega) hp, HOut7⟩
       case measure => simp [intOf]; omega
    ·have hke : k = x.ps.length := by omega
     have HGood : Hid (oneE (l.map Ent.uid) x = (⟨x.uid, acc, x.av.canon.1⟩, 0)) := q_ (by
      rw [HAcc.out, hke, List.take_length]
      exact oneE_all HK.out Hbv.out fun p hp => by
       obtain ⟨j, hj⟩ := List.mem_iff_getElem?.1 hp
       exact HAll.out j p (by rw [hke]; exact (List.getElem?_eq_some_iff.1 hj).1) hj)
     clear hke HB0'
     go_wp2_with (first | (refine zab rfl 87 _ rfl (w.heap.size + 1 + 1) 0 rfl za5 zas rfl (zak HOut.out.box) ?_) | (refine zbt rfl 87 _ _ rfl (w.heap.size + 1) rfl (zap x.uid (.slice Ap acc.length cp) [.int .i64 r0, .bool r1, .int .i64 r2, .string r3, .string r4, .string r5, .slice r6 r7 r8, .slice r9 ra rb]) rfl zas rfl 87 (zap (ByteArray.empty, ByteArray.empty) (.slice none 0 0) zeroCells).toArray HB1'.out rfl (zdm rfl (by simp [Value.oneCell'])) ?_; intro w9 hw9 hg9))
     refine bodyPost_ret (v := .tuple #[.agg (zap x.uid (.slice Ap acc.length cp) [.int .i64 r0, .bool r1, .int .i64 r2, .string r3, .string r4, .string r5, .slice r6 r7 r8, .slice r9 ra rb]).toArray, .int .i64 0]) (zah Tryz.results39 rfl za5 zas rfl (zak hw9)) rfl ?_
     exact told HOut.out HFu.out (by rw [zaq]; omega) HA4.out HX4.out Hb4.out hg9 (by rw [HGood.out]) (fun _ => by rw [HGood.out])
  ·have t7 : (x.av.canon.2 != 0) = true := by simpa using hbv
   have Hbv := q_ (zev (us := l.map Ent.uid) HK.out hbv)
   have Hbn := q_ hbv
   have HOut : Hid (OutAt w (w3.alloc (.cells [.int .i64 r0, .bool r1, .int .i64 r2, .string r3, .string r4, .string r5, .slice r6 r7 r8, .slice r9 ra rb].toArray 27)) x zeroCells [] (.slice none 0 0) (w3.alloc (.cells [.int .i64 r0, .bool r1, .int .i64 r2, .string r3, .string r4, .string r5, .slice r6 r7 r8, .slice r9 ra rb].toArray 27))) := q_ ⟨HB2.out, OwnL.nil, GrownBy.of_ext _ (Ext.refl _)⟩
   have HB1' := HB1
   clear hbv
   go_wp2_with (first | (refine zab rfl 87 _ rfl (w.heap.size + 1 + 1) 0 rfl za5 zas rfl (zak HOut.out.box) ?_) | (refine zbt rfl 87 _ _ rfl (w.heap.size + 1) rfl (zap x.uid (.slice none 0 0) zeroCells) rfl zas rfl 87 (zap (ByteArray.empty, ByteArray.empty) (.slice none 0 0) zeroCells).toArray HB1'.out rfl (zdm rfl (Val.At.one (S := fun _ => False) (w := w) (Val.zero_at _ _))) ?_; intro w9 hw9 hg9))
   refine bodyPost_ret (v := .tuple #[.agg (zap x.uid (.slice none 0 0) zeroCells).toArray, .int .i64 x.av.canon.2]) (zah Tryz.results39 rfl za5 zas rfl (zak hw9)) rfl ?_
   exact told HOut.out HFu.out (Nat.zero_le _) (Val.zero_at _ _) HX4.out Hb4.out hg9 Hbv.out.symm (fun h => absurd (Hbv.out.symm.trans h) Hbn.out)
 ·have e6 : (ka != 6) = true := by simpa using hk6
  have HB := q_ (zdu (us := l.map Ent.uid) (x := x) (by rw [HK.out]; exact hk6))
  clear hk6
  go_wp2_with fail
  refine bodyPost_ret (v := .tuple #[.agg (zap x.uid (.slice none 0 0) zeroCells).toArray, .int .i64 1]) (zah Tryz.results39 rfl za5 zas rfl (zak (T := 87) (by rw [heap_alloc_old _ _ (by simp)]; exact zba (by simp) _))) rfl ?_
  refine ⟨⟨x.uid, [], .zero⟩, _, by rw [HB.out]; rfl, ⟨_, _, rfl, HFu.out, Rep.RowsAt.nil _ _, Val.zero_at _ _⟩, fun h => ?_, (((Ext.refl w).alloc _).alloc _).alloc _⟩
  rw [HB.out] at h; cases h
end Go.Proofs.YtebfoimbdljbmaaGreatDoor

/-
  A row of entities that a call makes itself, each with a row of parents of its own: laid, added to, written. The conditions: none.
-/
namespace Go.Proofs.YtebfoimbdljbmaaGreatDoor
open Go.RowKit
/-! ### a row of entities that a call makes itself, each with a row of parents -/
def zb5 (es : List Ent) (pvs : List Value) : List Value := ((es.zip pvs).map fun p => zap p.1.uid p.2 recC).flatten
structure Chain (base : Nat) (W : World) (v : Value) (es : List Ent) (pvs : List Value) : Prop where
 len : pvs.length = es.length
 row : W.ownsRow base 87 11 v es.length (zb5 es pvs)
 fit : ∀ e ∈ es, FitU e.uid ∧ e.av = recV ∧ e.ps.length ≤ 2
 pars : ∀ (i : Nat) (e : Ent) (pv : Value), es[i]? = some e → pvs[i]? = some pv → ∃ xs, W.ownsRow base 23 2 pv e.ps.length xs ∧ uidR.Flat (fun _ => True) W e.ps xs
 apart : ∀ (i j : Nat) (p q : Value) (b : Nat), pvs[i]? = some p → pvs[j]? = some q → p.ownBlock = some b → q.ownBlock = some b → i = j
theorem Chain.nil (base : Nat) (W : World) : Chain base W (.slice none 0 0) [] [] :=
 ⟨rfl, World.ownsRow_nil _ _ _ _, fun _ h => by simp at h, fun _ _ _ h => by simp at h, fun _ _ _ _ _ h => by simp at h⟩
theorem Chain.later {base : Nat} {W W' : World} {v : Value} {es : List Ent} {pvs : List Value} (h : Chain base W v es pvs) (k : Ext W W') : Chain base W' v es pvs :=
 ⟨h.len, zam h.row k, h.fit, fun i e pv he hp => let ⟨xs, h1, h2⟩ := h.pars i e pv he hp; ⟨xs, zam h1 k, zby h2⟩, h.apart⟩
theorem ne6023 : (87 : TypeId) ≠ 23 := by decide
theorem Chain.push {base : Nat} {wr W1 W2 w2 : World} {v v' : Value} {es : List Ent} {pvs : List Value} {e : Ent} {pv : Value} {xs : List Value} (h : Chain base wr v es pvs) (h1 : Ext wr W1) (h2 : Ext W1 W2) (hfit : FitU e.uid ∧ e.av = recV ∧ e.ps.length ≤ 2)
  (hown : W1.ownsRow base 23 2 pv e.ps.length xs) (hf : uidR.Flat (fun _ => True) W1 e.ps xs) (hnew : ∀ b, pv.ownBlock = some b → wr.heap.size ≤ b)
  (hrow : w2.ownsRow base 87 11 v' (es.length + 1) (zb5 es pvs ++ zap e.uid pv recC)) (hg : GrownBy W2 w2 v.ownBlock) : Chain base w2 v' (es ++ [e]) (pvs ++ [pv]) := by
 have hlen := h.len
 refine ⟨by simp [hlen], ?_, fun x hx => ?_, fun i x q hx hq => ?_, fun i j p q b hp hq hb hc => ?_⟩
 ·rw [List.length_append, List.length_singleton]
  have : zb5 (es ++ [e]) (pvs ++ [pv]) = zb5 es pvs ++ zap e.uid pv recC := by
   unfold zb5
   rw [List.zip_append hlen.symm]
   simp
  rw [this]; exact hrow
 ·rcases List.mem_append.1 hx with hx | hx
  ·exact h.fit x hx
  ·simp at hx; subst hx; exact hfit
 ·by_cases hi : i < es.length
  ·rw [List.getElem?_append_left hi] at hx
   rw [List.getElem?_append_left (by omega)] at hq
   obtain ⟨ys, o1, o2⟩ := h.pars i x q hx hq
   exact ⟨ys, zau (zam o1 (h1.trans h2)) hg fun b hb hc => row_types h.row o1 ne6023 hc hb, zby o2⟩
  ·rw [List.getElem?_append_right (by omega)] at hx
   rw [List.getElem?_append_right (by omega)] at hq
   have hi0 : i = es.length := by
    have := (List.getElem?_eq_some_iff.1 hx).1
    simp at this; omega
   subst hi0
   simp at hx; subst hx
   rw [show es.length - pvs.length = 0 by omega] at hq
   simp at hq; subst hq
   exact ⟨xs, zau (zam hown h2) hg fun b hb hc => by have := hnew b hb; have := (h.row.lt b hc).2; omega, zby hf⟩
 ·have key : ∀ (i : Nat) (p : Value) (b : Nat), (pvs ++ [pv])[i]? = some p → p.ownBlock = some b → (i < pvs.length ∧ pvs[i]? = some p ∧ b < wr.heap.size) ∨ (i = pvs.length ∧ wr.heap.size ≤ b) := fun i p b hp hb => by
   by_cases hi : i < pvs.length
   ·rw [List.getElem?_append_left hi] at hp
    obtain ⟨x, hx⟩ : ∃ x, es[i]? = some x := ⟨_, List.getElem?_eq_getElem (by omega)⟩
    obtain ⟨ys, o1, _⟩ := h.pars i x p hx hp
    exact .inl ⟨hi, hp, (o1.lt b hb).2⟩
   ·rw [List.getElem?_append_right (by omega)] at hp
    have hi0 : i = pvs.length := by
     have := (List.getElem?_eq_some_iff.1 hp).1
     simp at this; omega
    subst hi0
    simp at hp; subst hp
    exact .inr ⟨rfl, hnew b hb⟩
  rcases key i p b hp hb with ⟨_, h5, h6⟩ | ⟨h5, h6⟩
  ·rcases key j q b hq hc with ⟨_, h7, h8⟩ | ⟨h7, h8⟩
   ·exact h.apart i j p q b h5 h7 hb hc
   ·omega
  ·rcases key j q b hq hc with ⟨_, h7, h8⟩ | ⟨h7, h8⟩
   ·omega
   ·omega
theorem chainCells_rows (es : List Ent) (pvs : List Value) : ∀ r ∈ (es.zip pvs).map (fun p => zap p.1.uid p.2 recC), r.length = 11 := fun r hr => by
 obtain ⟨p, _, rfl⟩ := List.mem_map.1 hr
 rfl
theorem Chain.flat {base : Nat} {W : World} {v : Value} {es : List Ent} {pvs : List Value} (h : Chain base W v es pvs) : entR.Flat (fun b => b < W.heap.size) W es (zb5 es pvs) := by
 have key : ∀ (es : List Ent) (pvs : List Value), pvs.length = es.length → (∀ e ∈ es, FitU e.uid ∧ e.av = recV ∧ e.ps.length ≤ 2) → (∀ (i : Nat) (e : Ent) (pv : Value), es[i]? = some e → pvs[i]? = some pv → uidR.RowsAt (fun b => b < W.heap.size) W e.ps pv) → entR.Flat (fun b => b < W.heap.size) W es (zb5 es pvs) := by
  intro es
  induction es with
  | nil => intro pvs _ _ _; simp [zb5, Rep.Flat]
  | cons e r ih =>
   intro pvs hl hf hp
   cases pvs with
   | nil => simp at hl
   | cons q qs =>
    have hfe := hf e (by simp)
    refine ⟨zap e.uid q recC, zb5 r qs, by simp [zb5], ⟨q, recC, rfl, hfe.1, hp 0 e q rfl rfl, by rw [hfe.2.1]; exact recV_at _ _⟩, ih qs (by simpa using hl) (fun x hx => hf x (by simp [hx])) fun i x y hx hy => hp (i + 1) x y (by simpa using hx) (by simpa using hy)⟩
 refine key es pvs h.len h.fit fun i e pv he hp => ?_
 obtain ⟨xs, o1, o2⟩ := h.pars i e pv he hp
 exact zet (R := uidR) o1 (zby (S' := fun _ => False) o2) (by have := (h.fit e (List.mem_of_getElem? he)).2.2; rw [zaq]; omega) (fun b hb => hb.elim) fun b hb => (o1.lt b hb).2
theorem Rep.Flat.take_drop {α : Type} {R : Rep α} {S : Nat → Prop} {w : World} : ∀ {l : List α} {xs : List Value} (n : Nat), R.Flat S w l xs → R.Flat S w (l.take n) (xs.take (n * R.size)) ∧ R.Flat S w (l.drop n) (xs.drop (n * R.size))
 | l, xs, 0, h => by simp [Rep.Flat]; exact h
 | [], xs, n + 1, h => by simp only [Rep.Flat] at h; subst h; simp [Rep.Flat]
 | x :: r, xs, n + 1, ⟨c, ys, e, hv, hr⟩ => by
  subst e
  have hl := R.len hv
  obtain ⟨h1, h2⟩ := Rep.Flat.take_drop n hr
  rw [Nat.succ_mul]
  constructor
  ·rw [List.take_succ_cons, List.take_append, List.take_of_length_le (l := c) (by omega), show n * R.size + R.size - c.length = n * R.size by omega]
   exact ⟨c, _, rfl, hv, h1⟩
  ·rw [List.drop_succ_cons, List.drop_append, show c.drop (n * R.size + R.size) = [] from List.drop_eq_nil_of_le (by omega), List.nil_append, show n * R.size + R.size - c.length = n * R.size by omega]
   exact h2
theorem flatten_at {sz : Nat} : ∀ {rows : List (List Value)} {i j : Nat} {r : List Value} {u : Value}, (∀ r ∈ rows, r.length = sz) → rows[i]? = some r → r[j]? = some u → rows.flatten[i * sz + j]? = some u := fun h1 h2 h3 => zce h1 h2 h3
theorem row_cell {base g n cap : Nat} {W : World} {es : List Ent} {pvs : List Value} (hrow : W.ownsRow base 87 11 (.slice (some ⟨g, 0, none⟩) n cap) es.length (zb5 es pvs)) {i : Nat} {e : Ent} {pv : Value} (he : es[i]? = some e) (hp : pvs[i]? = some pv) : W.cell? ⟨g, i * 11 + 2, none⟩ = some pv ∧ W.frozen? ⟨g, i * 11 + 2, none⟩ = false ∧ g < W.heap.size := by
 have hz : ((es.zip pvs).map fun p => zap p.1.uid p.2 recC)[i]? = some (zap e.uid pv recC) := by
  rw [List.getElem?_map, (List.getElem?_zip_eq_some (z := (e, pv))).2 ⟨he, hp⟩]; rfl
 have hc : (zb5 es pvs)[i * 11 + 2]? = some pv := flatten_at (chainCells_rows es pvs) hz rfl
 have hi := (List.getElem?_eq_some_iff.1 he).1
 obtain ⟨hx, hv⟩ := hrow
 rcases hv with ⟨hv, _⟩ | ⟨g', cap', cur, hv, hg, hh, hnc, hcm, hcur, htake⟩
 ·cases hv
 ·injection hv with e1 _ e3
  injection e1 with e1
  injection e1 with e1 _
  subst e1 e3
  refine ⟨?_, frozen_of_row _ _ _ _ _ hh, zaf hh⟩
  rw [cell_of_row _ _ _ _ _ _ hh]
  rw [← htake, List.getElem?_take] at hc
  split at hc
  ·simpa using hc
  ·cases hc
theorem Chain.cell {base g n cap : Nat} {W : World} {es : List Ent} {pvs : List Value} (h : Chain base W (.slice (some ⟨g, 0, none⟩) n cap) es pvs) {i : Nat} {e : Ent} {pv : Value} (he : es[i]? = some e) (hp : pvs[i]? = some pv) : W.cell? ⟨g, i * 11 + 2, none⟩ = some pv ∧ W.frozen? ⟨g, i * 11 + 2, none⟩ = false ∧ g < W.heap.size :=
 row_cell h.row he hp
theorem CellsAt.take {w : World} {b o : Nat} {xs : List Value} (h : CellsAt w b o xs) (n : Nat) : CellsAt w b o (xs.take n) := fun i u hi => by
 rw [List.getElem?_take] at hi
 split at hi
 ·exact h i u hi
 ·cases hi
end Go.Proofs.YtebfoimbdljbmaaGreatDoor

/-
  A part of one row behind another row of the call's own. No function of the program. The conditions: none (definitions and lemmas).
-/
namespace Go.Proofs.YtebfoimbdljbmaaGreatDoor
open Go.RowKit
section
variable {α : Type} {R : Rep α} {T : TypeId} {base : Nat} {W W' : World} {v v' : Value} {l : List α}
theorem OwnL.push_all {ys : List α} {xs cs : List Value} (hf : R.Flat (fun b => b < W.heap.size ∧ v.ownBlock ≠ some b) W l xs) (hx : R.Flat (fun b => b < W.heap.size ∧ v.ownBlock ≠ some b) W ys cs) (hg : GrownBy W W' v.ownBlock)
  (ho : W'.ownsRow base T R.size v' (l.length + ys.length) (xs ++ cs)) (hv : v'.ownBlock = v.ownBlock ∨ v'.ownBlock = some W.heap.size) : OwnL R T base W' v' (l ++ ys) := by
 have hal : Alike (fun b => b < W.heap.size ∧ v.ownBlock ≠ some b) W W' := fun b hb => hg.block b hb.1 fun e => hb.2 e.symm
 refine ⟨xs ++ cs, by simpa using ho, ?_⟩
 refine Rep.Flat.mono (S := fun b => b < W.heap.size ∧ v.ownBlock ≠ some b) (fun b hb => ⟨Nat.lt_of_lt_of_le hb.1 hg.size, fun e => ?_⟩) (Rep.Flat.append (Rep.Flat.alike hal hf) (Rep.Flat.alike hal hx))
 rcases hv with hv | hv
 ·exact hb.2 (hv ▸ e)
 ·rw [hv] at e; injection e with e; have := hb.1; omega
theorem OwnL.src {A : Option Addr} {n cap : Nat} (h : OwnL R T base W (.slice A n cap) l) : ∃ xs, R.Flat (fun b => b < W.heap.size) W l xs ∧ n = l.length ∧ n ≤ cap ∧ cap ≤ maxLen ∧ SrcAt W A n xs ∧ ∀ b o, A = some ⟨b, o, none⟩ → b < W.heap.size := by
 obtain ⟨xs, h1, h2⟩ := h
 have hn : n = l.length := by
  obtain ⟨A', c', e⟩ := zaz h1
  injection e
 subst hn
 refine ⟨xs, h2.mono fun b hb => hb.1, rfl, ?_⟩
 rcases Nat.eq_zero_or_pos l.length with h0 | h0
 ·obtain ⟨hx, hv⟩ := h1
  rcases hv with ⟨hv, _⟩ | ⟨g, cap', cur, hv, hg, hh, hnc, hcm, _⟩
  ·injection hv with e1 e2 e3
   subst e1 e3
   exact ⟨by omega, by simp, fun h => by omega, fun b o e => by cases e⟩
  ·injection hv with e1 e2 e3
   subst e1 e3
   exact ⟨by omega, hcm, fun h => by omega, fun b o e => by injection e with e; injection e with e; subst e; exact zaf hh⟩
 ·obtain ⟨g, cap', hv, hg, hnc, hcm, hc⟩ := own_cells h1 h0
  have hlt := (h1.lt g (by rw [hv]; rfl)).2
  injection hv with e1 e2 e3
  subst e1 e3
  exact ⟨hnc, hcm, fun _ => ⟨g, 0, rfl, hc⟩, fun b o e => by injection e with e; injection e with e; subst e; exact hlt⟩
theorem SrcAt.ext {A : Option Addr} {n : Nat} {xs : List Value} (h : SrcAt W A n xs) (hA : ∀ b o, A = some ⟨b, o, none⟩ → b < W.heap.size) (k : Ext W W') : SrcAt W' A n xs := fun h0 => by
 obtain ⟨b, o, e, hc⟩ := h h0
 exact ⟨b, o, e, hc.alike (S := fun b => b < W.heap.size) (hA b o e) (Alike.of_ext k fun _ h => h)⟩
theorem SrcAt.to {A : Option Addr} {n p sz : Nat} {xs : List Value} (h : SrcAt W A n xs) (hp : p ≤ n) : SrcAt W A p (xs.take (p * sz)) := fun h0 => by
 obtain ⟨b, o, e, hc⟩ := h (by omega)
 exact ⟨b, o, e, fun j v hj => hc j v (by rw [List.getElem?_take] at hj; split at hj; exact hj; cases hj)⟩
theorem SrcAt.off {A A2 : Option Addr} {n p sz cap : Nat} {xs : List Value} (h : SrcAt W A n xs) (hcap : n ≤ cap) (hA : CutOf A A2 n cap p sz) : SrcAt W A2 (n - p) (xs.drop (p * sz)) := fun h0 => by
 obtain ⟨b, o, e, hc⟩ := h (by omega)
 exact ⟨b, o + p * sz, hA b o hcap (by omega) e, hc.part fun j v hj => by rw [List.getElem?_drop] at hj; exact hj⟩
end
theorem zc8 {α : Type} {P : Program} {ops : Array Oper} {rest : List Oper} {o : Oper} {a : Act} {Q : Exit → Act → World → Prop} {w : World} (hgd : o.guard = none) (s x : Operand) (t : TypeId)
  (ho : o.op = .call { callee := .builtin .append, args := #[s, x], argTypes := #[t, t] }) (R : Rep α) (base : Nat) (e : TypeId) (i : TypeInfo) (z : Value) (bytes : Nat) (ht : P.underlying t = some (.slice e)) (hi : P.info? e = some i) (hz : i.zero = some z)
  (hsize : i.size = R.size) (hby : i.bytes = bytes) (hzs : z.cells.size = R.size) (v : Value) (l ys : List α) (A : Option Addr) (m c : Nat) (cs : List Value) (hs : a.eval s = v) (hx : a.eval x = .slice A m c)
  (hown : OwnL R e base w v l) (hsrc : SrcAt w A m cs) (hm : ys.length = m) (hy : R.Flat (fun b => b < w.heap.size ∧ v.ownBlock ≠ some b) w ys cs) (h63 : l.length + m ≤ maxLen) (hbytes : (l.length + m) * bytes ≤ 140737488355328) (hbase : base ≤ w.heap.size)
  (h : ∀ v' w', OwnL R e base w' v' (l ++ ys) → GrownBy w w' v.ownBlock → wpList P ops Q rest (a.put o.dst v') w') : wpList P ops Q (o :: rest) a w := by
 obtain ⟨xs, h1, h2⟩ := hown
 refine zbf hgd s x t ho base e i z R.size bytes ht hi hz hsize hby hzs R.pos v l.length xs hs h1 A m c cs hx (by rw [hy.length, hm]) hsrc hy.one h63 hbytes hbase fun v' w' ho' hg' hb' => ?_
 exact h v' w' (OwnL.push_all h2 hy hg' (by rw [hm]; exact ho') hb') hg'
end Go.Proofs.YtebfoimbdljbmaaGreatDoor

/-
  The reference's entities as they must be. The conditions: the entities lie in memory as they should, are few and small enough.
-/
namespace Go.Proofs.YtebfoimbdljbmaaGreatDoor
open Go.RowKit
open Lib renaming hid → q_
set_option maxRecDepth 100000
set_option maxHeartbeats 4000000
def EntsRes (l : List Ent) (er : Int) (w : World) (e : Ending) (w' : World) : Prop := ∃ v, e = .returned (.tuple #[v, .int .i64 er]) ∧ entR.RowsAt (fun b => b < w'.heap.size) w' l v ∧ Ext w w'
theorem EntsRes.none {er : Int} {w w' : World} (h : Ext w w') : EntsRes [] er w (.returned (.tuple #[.slice none 0 0, .int .i64 er])) w' := ⟨_, rfl, Rep.RowsAt.nil _ _, h⟩
section
variable {l : List Ent}
theorem canonE_twice (h20 : l.length ≤ 4096) (h : ¬ (l.map Ent.uid).Nodup) : za7 l = ([], 13) := by
 unfold za7; rw [if_neg (by omega), if_pos h]
theorem canonE_err (h20 : l.length ≤ 4096) (hn : (l.map Ent.uid).Nodup) {c : Int} (hc : c ≠ 0) (h : zb4 (l.map Ent.uid) l = ([], c)) : za7 l = ([], c) := by
 unfold za7; rw [if_neg (by omega), if_neg (fun k => k hn), h, if_pos hc]
theorem canonE_round (h20 : l.length ≤ 4096) (hn : (l.map Ent.uid).Nodup) {ys : List Ent} (h : zb4 (l.map Ent.uid) l = (ys, 0)) (hr : Rounded l) : za7 l = ([], 21) := by
 unfold za7; rw [if_neg (by omega), if_neg (fun k => k hn), h, if_neg (by simp), if_pos hr]
theorem canonE_told (h20 : l.length ≤ 4096) (hn : (l.map Ent.uid).Nodup) {ys : List Ent} (h : zb4 (l.map Ent.uid) l = (ys, 0)) (hr : ¬ Rounded l) : za7 l = (sortU cmpE ys, 0) := by
 unfold za7; rw [if_neg (by omega), if_neg (fun k => k hn), h, if_neg (by simp), if_neg hr]
theorem new_name (hn : (l.map Ent.uid).Nodup) {i : Nat} {x y : Ent} {ys : List Ent} (hx : l[i]? = some x) (hu : y.uid = x.uid) (h : zb4 (l.map Ent.uid) (l.take i) = (ys, 0)) : y.uid ∉ (sortU cmpE ys).map Ent.uid := fun hm => by
 have h1 := sortE_uids hm
 have h2 := onesE_uids (us := l.map Ent.uid) (l := l.take i) (by rw [h])
 rw [h] at h2
 rw [h2, hu] at h1
 obtain ⟨z, hz, hzu⟩ := List.mem_map.1 h1
 obtain ⟨a, ha⟩ := List.mem_iff_getElem?.1 hz
 rw [List.getElem?_take] at ha
 split at ha
 ·rename_i hlt
  have e1 := zbc (u := x.uid) hn (i := a) (by rw [List.getElem?_map, ha]; simp [hzu])
  have e2 := zbc (u := x.uid) hn (i := i) (by rw [List.getElem?_map, hx]; rfl)
  rw [e1] at e2
  have := Option.some.inj e2
  omega
 ·cases ha
theorem ones_next {us : List Uid} {i : Nat} {x : Ent} {ys : List Ent} (hx : l[i]? = some x) (h : zb4 us (l.take i) = (ys, 0)) (h0 : (oneE us x).2 = 0) : zb4 us (l.take (i + 1)) = (ys ++ [(oneE us x).1], 0) := by
 obtain ⟨h1, h2⟩ := List.getElem?_eq_some_iff.1 hx
 rw [List.take_succ_eq_append_getElem h1, h2]
 exact onesE_snoc h0 h
theorem ones_stop {us : List Uid} {i : Nat} {x : Ent} {ys : List Ent} (hx : l[i]? = some x) (h : zb4 us (l.take i) = (ys, 0)) (h0 : (oneE us x).2 ≠ 0) : zb4 us l = ([], (oneE us x).2) := by
 obtain ⟨h1, h2⟩ := List.getElem?_eq_some_iff.1 hx
 have := onesE_bad (r := l.drop (i + 1)) h0 h
 rw [show x :: l.drop (i + 1) = l.drop i by rw [List.drop_eq_getElem_cons h1, h2], List.take_append_drop] at this
 exact this
theorem sort_len (ys : List Ent) : (sortU cmpE ys).length ≤ ys.length := zcm ys
end
theorem ze9 : Tryz.prog.underlying 41 = some (.slice (Tryz.prog.elem 41)) := by kernel_rfl
theorem zdz : ∀ w, (Go.sizeOf (Tryz.prog.elem 41)).run Tryz.prog w = .ok 11 w := fun _ => by kernel_rfl
theorem canon5_ok (S : Nat → Prop) (l : List Ent) (v : Value) (w : World) (hS : ∀ b, S b → b < w.heap.size) (hl : entR.RowsAt S w l v) (h20 : l.length ≤ 1000) (hps : ∀ e ∈ l, e.ps.length ≤ 1000) (hdep : ∀ e ∈ l, e.av.dep ≤ 1000000) :
  Calls Tryz.prog 16 #[v] w (EntsRes (za7 l).1 (za7 l).2 w) := by
 have hl' := hl
 obtain ⟨A, cap, rfl, ⟨hl0, hl1, hl2⟩, hlr⟩ := hl
 clear hl0
 rw [zaj] at hl2
 have HS := q_ hS
 have HL := q_ hlr
 have HL' := q_ hl'
 have HP := q_ hps
 have HD := q_ hdep
 clear hS hlr hl' hps hdep
 obtain ⟨i0, hi0, hz0, hz1, hz2⟩ := info_parts Tryz.info60
 go_enter Tryz.func16, Tryz.ntmps16
 go_wp2_with fail
 go_loopw [4] (fun i' wr => ∃ i : Nat, i ≤ l.length ∧ i' = .int .i64 i ∧ Hid (∀ (a : Nat) (u : Uid), a < i → (l.map Ent.uid)[a]? = some u → idx (l.map Ent.uid) u = some a) ∧ Hid (Ext w wr)) (fun i' _ => l.length - (intOf i').toNat)
 case atStart => exact ⟨0, Nat.zero_le _, rfl, q_ fun _ _ h => by omega, q_ (Ext.refl _)⟩
 case round =>
  obtain ⟨i, hi, rfl, HA, HX⟩ := hrel
  by_cases hlt : i < l.length
  ·obtain ⟨b, o, rfl, hSb, hrow⟩ := HL.out (by omega)
   obtain ⟨x, hx⟩ : ∃ x, l[i]? = some x := ⟨_, List.getElem?_eq_getElem hlt⟩
   obtain ⟨cs, hca, hxa⟩ := hrow i x hx
   obtain ⟨k0, k1, _⟩ := zd6 hca hxa
   have c0 : wr.cell? ⟨b, o + i * 11, none⟩ = some (.string x.uid.1) := HX.out.cell k0
   have c1 : wr.cell? ⟨b, o + i * 11 + 1, none⟩ = some (.string x.uid.2) := HX.out.cell k1
   have hxu : (l.map Ent.uid)[i]? = some x.uid := by rw [List.getElem?_map, hx]; rfl
   obtain ⟨j, hj⟩ := idx_mem.1 (List.mem_of_getElem? hxu)
   have Hxu := q_ hxu
   have Hj := q_ hj
   have Hlt := q_ hlt
   have hjl := idx_lt hj
   rw [List.length_map] at hjl
   clear hx hca hxa hrow k0 k1 hxu hj
   go_wp2_with fail
   refine (find5_ok S l _ x.uid wr (fun b hb => Nat.lt_of_lt_of_le (HS.out b hb) HX.out.size) (HL'.out.alike (Alike.of_ext HX.out HS.out))).mono ?_
   rintro e w3 ⟨rfl, hx3⟩
   rw [zdf Hj.out]
   have HX3 := q_ (HX.out.trans hx3)
   clear hx3 c0 c1
   by_cases hji : j = i
   ·subst hji
    go_wp2_with fail
    go_roundw
    case rel => exact ⟨j + 1, by have := Hlt.out; omega, by go_num, q_ fun a u ha hu => by
     by_cases he : a = j
     ·subst he; rw [Hxu.out] at hu; cases hu; exact Hj.out
     ·exact HA.out a u (by omega) hu, HX3⟩
    case measure => have := Hlt.out; simp [intOf]; omega
   ·have e1 : ((j : Int) != (i : Int)) = true := by simp; omega
    have HNot := q_ (canonE_twice (l := l) (by omega) fun hn => hji (by
     have h := zbc hn Hxu.out
     rw [Hj.out] at h
     exact Option.some.inj h))
    clear hji
    go_wp2_with fail
    go_ret2
    rw [HNot.out]
    exact EntsRes.none HX3.out
  ·have HN : Hid ((l.map Ent.uid).Nodup) := q_ (nodup_idx fun a u hu => HA.out a u (by have := (List.getElem?_eq_some_iff.1 hu).1; rw [List.length_map] at this; omega) hu)
   clear HA
   go_wp2_with fail
   clear hlt
   obtain ⟨wo, hwo⟩ : ∃ wo : World, wo = wr := ⟨_, rfl⟩
   subst hwo
   go_loopw [5, 6] (fun out i' wr => ∃ (i : Nat) (ys : List Ent), i ≤ l.length ∧ i' = .int .i64 i ∧ Hid (zb4 (l.map Ent.uid) (l.take i) = (ys, 0)) ∧ ys.length ≤ i ∧ Hid (OwnL entR 87 w.heap.size wr out (sortU cmpE ys)) ∧ Hid (Ext w wr)) (fun _ i' _ => l.length - (intOf i').toNat)
   case atStart => exact ⟨0, [], Nat.zero_le _, rfl, q_ (by simp [zb4]), Nat.le_refl _, q_ OwnL.nil, HX⟩
   case round =>
    clear HX
    obtain ⟨i, ys, hi, rfl, HOnes, hys, HO, HX⟩ := hrel
    have hsl := sort_len ys
    by_cases hlt : i < l.length
    ·obtain ⟨b, o, rfl, hSb, hrow⟩ := HL.out (by omega)
     obtain ⟨x, hx⟩ : ∃ x, l[i]? = some x := ⟨_, List.getElem?_eq_getElem hlt⟩
     obtain ⟨cs, hca, hxa⟩ := hrow i x hx
     have Hcl := q_ (show cs.length = 11 from entR.len hxa)
     have Hca := q_ (show CellsAt wr b (o + i * 11) cs from hca.alike hSb (Alike.of_ext HX.out HS.out))
     have Hxa := q_ (entR.alike hxa (Alike.of_ext HX.out HS.out))
     have Hx := q_ hx
     have Hlt := q_ hlt
     clear hx hca hxa hrow
     go_wp2_with (refine zab rfl 87 _ rfl b (o + i * 11) rfl za5 zas Hcl.out Hca.out ?_)
     refine (one5_ok S l x _ cs wr (fun b hb => Nat.lt_of_lt_of_le (HS.out b hb) HX.out.size) (HL'.out.alike (Alike.of_ext HX.out HS.out)) Hxa.out (HD.out x (List.mem_of_getElem? Hx.out)) (HP.out x (List.mem_of_getElem? Hx.out))).mono ?_
     rintro e w4 ⟨y, csy, rfl, hya, hy0, hx4⟩
     obtain ⟨Y1, yl1, yc1, yk, yb, yn, yt, yut, yui, Y2, yl2, yc2, Y3, yl3, yc3, rfl⟩ := zef hya
     have HX4 := q_ (HX.out.trans hx4)
     have HX4r := q_ hx4
     by_cases hone : (oneE (l.map Ent.uid) x).2 = 0
     ·have t7 : ((oneE (l.map Ent.uid) x).2 != 0) = false := by simpa using hone
      have Hone := q_ hone
      have Hy0 := q_ (hy0 hone)
      have HYa4 := q_ hya
      clear hone hy0 hya hx4
      go_wp2_with fail
      obtain ⟨w5, hw5⟩ : ∃ w5, w5 = w4.alloc (.cells [.string y.uid.1, .string y.uid.2, .slice Y1 yl1 yc1, .int .i64 yk, .bool yb, .int .i64 yn, .string yt, .string yut, .string yui, .slice Y2 yl2 yc2, .slice Y3 yl3 yc3].toArray 87) := ⟨_, rfl⟩
      change Code.wp _ _ _ _ (w4.alloc (.cells [.string y.uid.1, .string y.uid.2, .slice Y1 yl1 yc1, .int .i64 yk, .bool yb, .int .i64 yn, .string yt, .string yut, .string yui, .slice Y2 yl2 yc2, .slice Y3 yl3 yc3].toArray 87))
      rw [← hw5]
      have x45 : Ext w4 w5 := by rw [hw5]; exact (Ext.refl w4).alloc _
      have HB7 : Hid (w5.heap[w4.heap.size]? = some (.cells [.string y.uid.1, .string y.uid.2, .slice Y1 yl1 yc1, .int .i64 yk, .bool yb, .int .i64 yn, .string yt, .string yut, .string yui, .slice Y2 yl2 yc2, .slice Y3 yl3 yc3].toArray 87 (0, 0))) := q_ (by rw [hw5]; exact heap_alloc_new _ _)
      have HXw5 := q_ (HX4.out.trans x45)
      have HSlt := q_ (HX4r.out.trans x45)
      have HYa : Hid (entR.At (fun b => b < w5.heap.size) w5 y [.string y.uid.1, .string y.uid.2, .slice Y1 yl1 yc1, .int .i64 yk, .bool yb, .int .i64 yn, .string yt, .string yut, .string yui, .slice Y2 yl2 yc2, .slice Y3 yl3 yc3]) := q_ (entR.mono (entR.alike HYa4.out (Alike.of_ext x45 fun b hb => hb.2)) fun b hb => Nat.lt_of_lt_of_le hb.2 x45.size)
      have HNew0 := q_ (new_name (y := y) HN.out Hx.out (by rw [Hy0.out, oneE_uid]) HOnes.out)
      obtain ⟨zs, hzs⟩ : ∃ zs, zs = sortU cmpE ys := ⟨_, rfl⟩
      rw [← hzs] at HO HNew0 hsl
      have HNew := HNew0
      have HZs := q_ hzs
      obtain ⟨Ao, co, eo⟩ := HO.out.shape
      subst eo
      obtain ⟨xo, hfo, _, hco, hcm, hsrc, hao⟩ := (HO.out.ext HSlt.out).src
      rw [zaj] at hcm
      have HFo := q_ hfo
      have HSrc := q_ hsrc
      have HAo := q_ hao
      have HFy : Hid (FitU y.uid) := q_ (by obtain ⟨_, _, _, h, _⟩ := HYa.out; exact h)
      clear hw5 x45 hfo hsrc hao hzs HNew0 HO
      go_loopw [10] (fun p' wr => ∃ p : Nat, p ≤ zs.length ∧ p' = .int .i64 p ∧ Hid (∀ (a : Nat) (z : Ent), a < p → zs[a]? = some z → cmpE z y = -1) ∧ Hid (Ext w5 wr)) (fun p' _ => zs.length - (intOf p').toNat)
      case atStart => exact ⟨0, Nat.zero_le _, rfl, q_ fun _ _ h => by omega, q_ (Ext.refl _)⟩
      case round =>
       obtain ⟨p, hp, rfl, HLess, HXp⟩ := hrel
       by_cases hpt : p < zs.length
       ·obtain ⟨z, hz⟩ : ∃ z, zs[p]? = some z := ⟨_, List.getElem?_eq_getElem hpt⟩
        obtain ⟨bz, oz, hA, hcz⟩ := HSrc.out (by omega)
        subst hA
        obtain ⟨csz, hzat, hzc⟩ := HFo.out.get hz
        obtain ⟨pvz, acz, rfl, hfz, _⟩ := hzat
        have b0 := cell_of_row _ _ 0 _ _ _ ((HXp.out.block _ (zaf HB7.out)).trans HB7.out)
        have b1 := cell_of_row _ _ 1 _ _ _ ((HXp.out.block _ (zaf HB7.out)).trans HB7.out)
        simp at b0 b1
        have r0 := zac (show wr.cell? ⟨bz, oz + p * 11, none⟩ = some (.string z.uid.1) from HXp.out.cell (hcz _ _ (hzc 0 _ rfl)))
        have r1 := zac (show wr.cell? ⟨bz, oz + p * 11 + 1, none⟩ = some (.string z.uid.2) from HXp.out.cell (hcz _ _ (hzc 1 _ rfl)))
        have r2 := zac b0
        have r3 := zac b1
        have HFz := q_ hfz
        have Hz := q_ hz
        clear hz hcz hzc hfz b0 b1
        have hrg := (GoodAt.ordU z.uid).range y.uid
        by_cases hcmp : ordU z.uid y.uid < 0
        ·have hd : decide (ordU z.uid y.uid < 0) = true := decide_eq_true hcmp
         have HCmp := q_ (show cmpE z y = -1 by unfold cmpE; omega)
         clear hrg
         go_wp2_with fail
         refine zax (by kernel_rfl) (by kernel_rfl) ?_
         repeat (go_big_quiet_step ((go_at_call 40; exact zbx (fun w1 hw1 => order5_ok z.uid y.uid w1 HFz.out HFy.out) _ _)))
         refine wpQuiet_nil ?_
         intro w6 hw6
         have HX6 := q_ (HXp.out.trans hw6)
         clear hw6 r0 r1 r2 r3 hd hcmp
         go_wp2_with fail
         go_roundw
         case rel => exact ⟨p + 1, by omega, by go_num, q_ fun a u ha hu => by
          by_cases he : a = p
          ·subst he; rw [Hz.out] at hu; cases hu; exact HCmp.out
          ·exact HLess.out a u (by omega) hu, HX6⟩
         case measure => simp [intOf]; omega
        ·have hd : decide (ordU z.uid y.uid < 0) = false := decide_eq_false hcmp
         have HStop : Hid (∀ u : Ent, zs[p]? = some u → ¬ cmpE u y = -1) := q_ fun u hu => by rw [Hz.out] at hu; cases hu; unfold cmpE; omega
         clear hrg
         go_wp2_with fail
         refine zax (by kernel_rfl) (by kernel_rfl) ?_
         repeat (go_big_quiet_step ((go_at_call 40; exact zbx (fun w1 hw1 => order5_ok z.uid y.uid w1 HFz.out HFy.out) _ _)))
         refine wpQuiet_nil ?_
         intro w6 hw6
         have HX6 := q_ (HXp.out.trans hw6)
         clear hw6 r0 r1 r2 r3 hd hcmp
         obtain ⟨Ao, hAo⟩ : ∃ Ao : Option Addr, Ao = some ⟨bz, oz, none⟩ := ⟨_, rfl⟩
         rw [← hAo] at HSrc HAo ⊢
         clear hAo
         have hcs := HFo.out.alike (Alike.of_ext HX6.out fun b hb => hb)
         have HF1 := q_ (hcs.take_drop p)
         have HS1 := q_ ((HSrc.out.ext HAo.out HX6.out).to (sz := 11) hp)
         have HS2 := q_ (HSrc.out.ext HAo.out HX6.out)
         have Hlt1 := q_ (show (zs.take p).length = p by rw [List.length_take]; omega)
         have Hld := q_ (show (zs.drop p).length = zs.length - p by rw [List.length_drop])
         have Hb7 := q_ ((HX6.out.block _ (zaf HB7.out)).trans HB7.out)
         have hw5 := HX6.out.size
         clear hcs
         go_wp2_with (first | refine zc1 rfl 41 (.tmp 66) (.tmp 67) rfl 11 ze9 zdz Ao zs.length co p rfl rfl (by omega) ?_ | (at_builtin; refine zc8 rfl (.tmp 65) (.tmp 68) 41 rfl entR w5.heap.size 87 i0 _ 176 Tryz.underlying41 hi0 hz0 hz1 hz2 rfl (.slice none 0 0) [] (zs.take p) Ao p co (xo.take (p * 11)) rfl rfl OwnL.nil HS1.out Hlt1.out (HF1.out.1.mono fun b hb => ⟨Nat.lt_of_lt_of_le hb hw5, fun e => by cases e⟩) (by rw [zaj]; simp; omega) (by simp; omega) hw5 ?_))
         intro m1 x1 hm1 hg1
         have HM1 := q_ hm1
         have HX1 := q_ (zav (Ext.refl w6) hg1 fun b e => by cases e)
         clear hm1 hg1
         have Hb71 := q_ ((HX1.out.block _ (zaf Hb7.out)).trans Hb7.out)
         have hx51 := HX6.out.trans HX1.out
         have HX51 := q_ hx51
         have hw51 := hx51.size
         clear hx51
         go_wp2_with (first | refine zab rfl 87 _ rfl w4.heap.size 0 rfl za5 zas rfl (zak Hb71.out) ?_ | (at_builtin; refine zck rfl (.tmp 70) (.tmp 72) 41 rfl entR w5.heap.size 87 i0 _ 176 Tryz.underlying41 hi0 hz0 hz1 hz2 rfl m1 (zs.take p) x1 87 y [.string y.uid.1, .string y.uid.2, .slice Y1 yl1 yc1, .int .i64 yk, .bool yb, .int .i64 yn, .string yt, .string yut, .string yui, .slice Y2 yl2 yc2, .slice Y3 yl3 yc3] rfl rfl HM1.out ?qy (by rw [zaj, Hlt1.out]; omega) (by rw [Hlt1.out]; omega) hw51 ?_))
         case qy => exact entR.mono (entR.alike HYa.out (Alike.of_ext HX51.out fun b hb => hb)) fun b hb => ⟨Nat.lt_of_lt_of_le hb hw51, fun e => by have := (HM1.out.lt b e).1; omega⟩
         intro m2 x2 hm2 hg2
         have HM2 := q_ hm2
         have HX52 := q_ (zav HX51.out hg2 fun b e => (HM1.out.lt b e).1)
         have Hg2 := q_ hg2
         clear hm2 hg2
         have hw52 := HX52.out.size
         go_wp2_with (refine zcl rfl 41 (.tmp 75) (.tmp 76) rfl 11 ze9 zdz Ao zs.length co p rfl rfl (by omega) ?_)
         intro A2 hA2
         have HS3 := q_ ((HSrc.out.ext HAo.out HX52.out).off hco hA2)
         have HF3 := q_ (HFo.out.alike (Alike.of_ext HX52.out fun b hb => hb) |>.take_drop p)
         have Hl2 := q_ (show (zs.take p ++ [y]).length = p + 1 by simp; omega)
         clear hA2
         go_wp2_with (at_builtin; go_loud (refine zc8 rfl (.tmp 74) (.tmp 77) 41 rfl entR w5.heap.size 87 i0 _ 176 Tryz.underlying41 hi0 hz0 hz1 hz2 rfl m2 (zs.take p ++ [y]) (zs.drop p) A2 (zs.length - p) (co - p) (xo.drop (p * 11)) rfl rfl HM2.out HS3.out Hld.out (HF3.out.2.mono fun b hb => ⟨Nat.lt_of_lt_of_le hb hw52, fun e => by have := (HM2.out.lt b e).1; omega⟩) (by rw [zaj]; rw [Hl2.out]; omega) (by rw [Hl2.out]; omega) hw52 ?_))
         intro m3 x3 hm3 hg3
         have HX53 := q_ (zav HX52.out hg3 fun b e => (HM2.out.lt b e).1)
         have hins : sortU cmpE (ys ++ [y]) = zs.take p ++ y :: zs.drop p := by
          rw [sortU_snoc, ← HZs.out]
          exact ins_here (by rw [HZs.out]; exact zbg GoodAt.cmpE _) hp HLess.out HStop.out HNew.out
         rw [← hins] at hm3
         have HM3 := q_ (hm3.low (Nat.le_trans HXw5.out.size (Nat.le_refl _)))
         have HOn := q_ (ones_next Hx.out HOnes.out Hone.out)
         clear hm3 hg3 hins
         rw [← Hy0.out] at HOn
         go_wp2_with fail
         go_roundw
         case rel => exact ⟨i + 1, ys ++ [y], by have := Hlt.out; omega, by go_num, HOn, by simp; omega, HM3, q_ (HXw5.out.trans HX53.out)⟩
         case measure => have := Hlt.out; simp [intOf]; omega
       ·have hpe : p = zs.length := by omega
        have HStop : Hid (∀ u : Ent, zs[p]? = some u → ¬ cmpE u y = -1) := q_ fun u hu => by have := (List.getElem?_eq_some_iff.1 hu).1; omega
        clear hpe
        go_wp2_with fail
        refine zax (by kernel_rfl) (by kernel_rfl) ?_
        repeat (go_big_quiet_step (fail))
        refine wpQuiet_nil ?_
        intro w6 hw6
        have HX6 := q_ (HXp.out.trans hw6)
        clear hw6
        have hcs := HFo.out.alike (Alike.of_ext HX6.out fun b hb => hb)
        have HF1 := q_ (hcs.take_drop p)
        have HS1 := q_ ((HSrc.out.ext HAo.out HX6.out).to (sz := 11) hp)
        have HS2 := q_ (HSrc.out.ext HAo.out HX6.out)
        have Hlt1 := q_ (show (zs.take p).length = p by rw [List.length_take]; omega)
        have Hld := q_ (show (zs.drop p).length = zs.length - p by rw [List.length_drop])
        have Hb7 := q_ ((HX6.out.block _ (zaf HB7.out)).trans HB7.out)
        have hw5 := HX6.out.size
        clear hcs
        go_wp2_with (first | refine zc1 rfl 41 (.tmp 66) (.tmp 67) rfl 11 ze9 zdz Ao zs.length co p rfl rfl (by omega) ?_ | (at_builtin; refine zc8 rfl (.tmp 65) (.tmp 68) 41 rfl entR w5.heap.size 87 i0 _ 176 Tryz.underlying41 hi0 hz0 hz1 hz2 rfl (.slice none 0 0) [] (zs.take p) Ao p co (xo.take (p * 11)) rfl rfl OwnL.nil HS1.out Hlt1.out (HF1.out.1.mono fun b hb => ⟨Nat.lt_of_lt_of_le hb hw5, fun e => by cases e⟩) (by rw [zaj]; simp; omega) (by simp; omega) hw5 ?_))
        intro m1 x1 hm1 hg1
        have HM1 := q_ hm1
        have HX1 := q_ (zav (Ext.refl w6) hg1 fun b e => by cases e)
        clear hm1 hg1
        have Hb71 := q_ ((HX1.out.block _ (zaf Hb7.out)).trans Hb7.out)
        have hx51 := HX6.out.trans HX1.out
        have HX51 := q_ hx51
        have hw51 := hx51.size
        clear hx51
        go_wp2_with (first | refine zab rfl 87 _ rfl w4.heap.size 0 rfl za5 zas rfl (zak Hb71.out) ?_ | (at_builtin; refine zck rfl (.tmp 70) (.tmp 72) 41 rfl entR w5.heap.size 87 i0 _ 176 Tryz.underlying41 hi0 hz0 hz1 hz2 rfl m1 (zs.take p) x1 87 y [.string y.uid.1, .string y.uid.2, .slice Y1 yl1 yc1, .int .i64 yk, .bool yb, .int .i64 yn, .string yt, .string yut, .string yui, .slice Y2 yl2 yc2, .slice Y3 yl3 yc3] rfl rfl HM1.out ?qy (by rw [zaj, Hlt1.out]; omega) (by rw [Hlt1.out]; omega) hw51 ?_))
        case qy => exact entR.mono (entR.alike HYa.out (Alike.of_ext HX51.out fun b hb => hb)) fun b hb => ⟨Nat.lt_of_lt_of_le hb hw51, fun e => by have := (HM1.out.lt b e).1; omega⟩
        intro m2 x2 hm2 hg2
        have HM2 := q_ hm2
        have HX52 := q_ (zav HX51.out hg2 fun b e => (HM1.out.lt b e).1)
        have Hg2 := q_ hg2
        clear hm2 hg2
        have hw52 := HX52.out.size
        go_wp2_with (refine zcl rfl 41 (.tmp 75) (.tmp 76) rfl 11 ze9 zdz Ao zs.length co p rfl rfl (by omega) ?_)
        intro A2 hA2
        have HS3 := q_ ((HSrc.out.ext HAo.out HX52.out).off hco hA2)
        have HF3 := q_ (HFo.out.alike (Alike.of_ext HX52.out fun b hb => hb) |>.take_drop p)
        have Hl2 := q_ (show (zs.take p ++ [y]).length = p + 1 by simp; omega)
        clear hA2
        go_wp2_with (at_builtin; go_loud (refine zc8 rfl (.tmp 74) (.tmp 77) 41 rfl entR w5.heap.size 87 i0 _ 176 Tryz.underlying41 hi0 hz0 hz1 hz2 rfl m2 (zs.take p ++ [y]) (zs.drop p) A2 (zs.length - p) (co - p) (xo.drop (p * 11)) rfl rfl HM2.out HS3.out Hld.out (HF3.out.2.mono fun b hb => ⟨Nat.lt_of_lt_of_le hb hw52, fun e => by have := (HM2.out.lt b e).1; omega⟩) (by rw [zaj]; rw [Hl2.out]; omega) (by rw [Hl2.out]; omega) hw52 ?_))
        intro m3 x3 hm3 hg3
        have HX53 := q_ (zav HX52.out hg3 fun b e => (HM2.out.lt b e).1)
        have hins : sortU cmpE (ys ++ [y]) = zs.take p ++ y :: zs.drop p := by
         rw [sortU_snoc, ← HZs.out]
         exact ins_here (by rw [HZs.out]; exact zbg GoodAt.cmpE _) hp HLess.out HStop.out HNew.out
        rw [← hins] at hm3
        have HM3 := q_ (hm3.low (Nat.le_trans HXw5.out.size (Nat.le_refl _)))
        have HOn := q_ (ones_next Hx.out HOnes.out Hone.out)
        clear hm3 hg3 hins
        rw [← Hy0.out] at HOn
        go_wp2_with fail
        go_roundw
        case rel => exact ⟨i + 1, ys ++ [y], by have := Hlt.out; omega, by go_num, HOn, by simp; omega, HM3, q_ (HXw5.out.trans HX53.out)⟩
        case measure => have := Hlt.out; simp [intOf]; omega
     ·have t7 : ((oneE (l.map Ent.uid) x).2 != 0) = true := by simpa using hone
      have HC := q_ (canonE_err (by omega) HN.out hone (ones_stop Hx.out HOnes.out hone))
      clear hone hy0 hya hx4
      go_wp2_with fail
      go_ret2
      rw [HC.out]
      exact EntsRes.none (HX4.out.alloc _)
    ·have HOl : Hid (zb4 (l.map Ent.uid) l = (ys, 0)) := q_ (by have h := HOnes.out; rwa [List.take_of_length_le (by omega)] at h)
     go_wp2_with fail
     refine (round5_ok S l _ wr (fun b hb => Nat.lt_of_lt_of_le (HS.out b hb) HX.out.size) (HL'.out.alike (Alike.of_ext HX.out HS.out)) h20 HN.out).mono ?_
     rintro e w3 ⟨r, rfl, hr, hx3⟩
     have HX3 := q_ (HX.out.trans hx3)
     have HO3 := q_ (HO.out.ext hx3)
     cases r with
     | true =>
      have HC := q_ (canonE_round (by omega) HN.out HOl.out (hr.1 rfl))
      clear hr hx3
      go_wp2_with fail
      go_ret2
      rw [HC.out]
      exact EntsRes.none HX3.out
     | false =>
      have HC := q_ (canonE_told (by omega) HN.out HOl.out (fun h => nomatch hr.2 h))
      clear hr hx3
      go_wp2_with fail
      go_ret2
      rw [HC.out]
      exact ⟨_, rfl, HO3.out.rows (by rw [zaq]; omega), HX3.out⟩
end Go.Proofs.YtebfoimbdljbmaaGreatDoor
