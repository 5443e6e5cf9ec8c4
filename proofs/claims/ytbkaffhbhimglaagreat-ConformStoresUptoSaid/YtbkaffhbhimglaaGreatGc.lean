/-
  What the program's canon of a row of values comes to. The conditions: the contract of canon for its members.
-/
import Derived.Test.YtbkaffhbhimglaaGreatGb
import Derived.Maps.RangeWalk
import Derived.DeepKeys4
import Derived.Laws.CopyRow
import Derived.Test.YtbkaffhbhimglaaGreatGa
namespace Go.Proofs.YtbkaffhbhimglaaGreat
open Go.RowKit
open Lib renaming hid → q_
set_option maxRecDepth 100000
set_option maxHeartbeats 800000
def zcs (x : Val) (er : Int) (w : World) (e : Ending) (w' : World) : Prop := ∃ cs : List Value, e = .returned (.tuple #[.agg cs.toArray, .int .i64 er]) ∧ Val.At (Fresh w.heap.size w') w' x cs ∧ Ext w w'
def RowErr (l : List Val) (er : Int) (w : World) (e : Ending) (w' : World) : Prop :=
 ∃ v, e = .returned (.tuple #[v, .int .i64 er]) ∧ (∃ xs, w'.ownsRow w.heap.size 46 8 v l.length xs ∧ Flat (Made w.heap.size w' v) w' l xs) ∧ Ext w w'
def Val.itemsOf (l : List Val) : List Val × Int := if (Val.cans l).2 ≠ 0 then ([], (Val.cans l).2) else if 4096 < l.length then ([], 12) else ((Val.cans l).1, 0)
theorem Val.cans_snoc {x : Val} (h0 : x.can.2 = 0) : ∀ {l ys : List Val}, Val.cans l = (ys, 0) → Val.cans (l ++ [x]) = (ys ++ [x.can.1], 0)
 | [], ys, h => by simp [Val.cans] at h; subst h; simp [Val.cans, h0]
 | y :: r, ys, h => by
  simp only [Val.cans] at h
  split at h
  ·rename_i h1; simp at h; exact absurd h.2 h1
  ·split at h
   ·rename_i h1; simp at h; exact absurd h.2 h1
   ·rename_i h1 h2
    simp at h1 h2 h
    subst h
    have := Val.cans_snoc h0 (l := r) (ys := (Val.cans r).1) (by rw [← h2])
    simp [Val.cans, h1, this]
theorem Val.cans_bad {x : Val} (h0 : x.can.2 ≠ 0) : ∀ {l r ys : List Val}, Val.cans l = (ys, 0) → Val.cans (l ++ x :: r) = ([], x.can.2)
 | [], _, _, _ => by simp [Val.cans, h0]
 | y :: l, r, ys, h => by
  simp only [Val.cans] at h
  split at h
  ·rename_i h1; simp at h; exact absurd h.2 h1
  ·split at h
   ·rename_i h1; simp at h; exact absurd h.2 h1
   ·rename_i h1 h2
    simp at h1 h2
    have := Val.cans_bad h0 (l := l) (r := r) (ys := (Val.cans l).1) (by rw [← h2])
    simp [Val.cans, h1, this, h0]
theorem Val.cans_length : ∀ {l : List Val}, (Val.cans l).2 = 0 → (Val.cans l).1.length = l.length
 | [], _ => rfl
 | y :: r, h => by
  simp only [Val.cans] at h ⊢
  split at h
  ·rename_i h1; exact absurd h h1
  ·split at h
   ·rename_i h1; exact absurd h h1
   ·rename_i h1 h2
    simp at h2
    rw [if_neg h1, if_neg (by simpa using h2)]
    simp [Val.cans_length h2]
theorem za8 {α : Type} {l : List α} {k : Nat} {x : α} (h : l[k]? = some x) : l.take (k + 1) = l.take k ++ [x] := by
 obtain ⟨h1, rfl⟩ := List.getElem?_eq_some_iff.1 h
 exact List.take_succ_eq_append_getElem h1
theorem zb1 {α : Type} {l : List α} {k : Nat} {x : α} (h : l[k]? = some x) : l.take k ++ x :: l.drop (k + 1) = l := by
 obtain ⟨h1, rfl⟩ := List.getElem?_eq_some_iff.1 h
 rw [← List.drop_eq_getElem_cons h1, List.take_append_drop]
theorem zen : (Tryz.prog.info? 46).map (fun i => (i.zero, i.size, i.bytes)) = some (some (.agg zeroCells.toArray), 8, 120) := by kernel_rfl
theorem items_ok (S : Nat → Prop) (l : List Val) (v : Value) (w : World) (hS : ∀ b, S b → b < w.heap.size) (hl : ValsAt S w l v)
  (hc : ∀ x ∈ l, ∀ (w1 : World) (cx : List Value), (∀ b, S b → b < w1.heap.size) → Val.At S w1 x cx → Calls Tryz.prog 74 #[.agg cx.toArray] w1 (zcs x.can.1 x.can.2 w1)) :
  Calls Tryz.prog 93 #[v] w (RowErr (Val.itemsOf l).1 (Val.itemsOf l).2 w) := by
 obtain ⟨A, cap, rfl, ⟨hl0, hl1, hl2⟩, hlr⟩ := hl
 rw [zak] at hl0
 rw [zab] at hl2
 have HS := q_ hS
 have HC := q_ hc
 have HL := q_ hlr
 have hi0 := q_ (show Val.itemsOf l = if (Val.cans l).2 ≠ 0 then ([], (Val.cans l).2) else if 4096 < l.length then ([], 12) else ((Val.cans l).1, 0) from rfl)
 generalize Val.itemsOf l = res at *
 clear hS hc hlr
 obtain ⟨i0, hi, hz0, hz1, hz2⟩ := info_parts zen
 go_enter Tryz.func93, Tryz.ntmps93
 go_wp2_with fail
 go_loopw [4, 11] (fun u i wr => ∃ k : Nat, k ≤ l.length ∧ i = .int .i64 k ∧ Ext w wr ∧ Hid (∃ ys xs, Val.cans (l.take k) = (ys, 0) ∧ wr.ownsRow w.heap.size 46 8 u ys.length xs ∧ Flat (Made w.heap.size wr u) wr ys xs)) (fun _ i _ => l.length - (intOf i).toNat)
 case atStart => exact ⟨0, Nat.zero_le _, rfl, Ext.refl w, [], [], by simp [Val.cans], World.ownsRow_nil _ _ _ _, rfl⟩
 case round =>
  obtain ⟨k, hk, rfl, hext, Hown⟩ := hrel
  have HX := q_ hext
  have HSr := q_ (show ∀ b, S b → b < wr.heap.size from fun b hb => Nat.lt_of_lt_of_le (HS.out b hb) hext.size)
  clear hext
  by_cases hlt : k < l.length
  ·obtain ⟨b, o, rfl, hSb, hrow⟩ := HL.out (by omega)
   obtain ⟨x, hx⟩ : ∃ x, l[k]? = some x := ⟨_, List.getElem?_eq_getElem hlt⟩
   obtain ⟨cs, hcl, hca, hxa⟩ := hrow.get hx
   have Hca := q_ (hca.alike hSb (Alike.of_ext HX.out HS.out))
   have Hxa := q_ (hxa.alike (Alike.of_ext HX.out HS.out))
   have Hx := q_ hx
   clear hx hxa hca hrow hcl hSb
   obtain ⟨k1, b1, n1, t1, ut1, ui1, A1, l1, c1, A2, l2, c2, rfl⟩ := Hxa.out.shape
   go_wp2_with (refine zac rfl 46 _ rfl b (o + k * 8) rfl zai zaf rfl Hca.out ?_)
   refine (HC.out x (List.mem_of_getElem? Hx.out) _ [_, _, _, _, _, _, _, _] (fun b hb => Nat.lt_of_lt_of_le (HSr.out b hb) ((Ext.refl _).alloc _).size) (Hxa.out.alike (Alike.of_ext ((Ext.refl _).alloc _) HSr.out))).mono ?_
   rintro e w1 ⟨ys, rfl, hy, hx1⟩
   have Hy := q_ hy
   have HX1 := q_ hx1
   clear hy hx1
   obtain ⟨k3, b3, n3, t3, ut3, ui3, A3, l3, c3, A4, l4, c4, rfl⟩ := Hy.out.shape
   by_cases he : x.can.2 = 0
   ·have e0 : (x.can.2 != 0) = false := by simpa using he
    have He := q_ he
    clear he
    obtain ⟨ys0, xs, hcans, hown, hflat⟩ := Hown.out
    have Hc := q_ hcans
    have Ho := q_ hown
    have Hf := q_ hflat
    have hlen : ys0.length = k := by
     have h1 := Val.cans_length (l := l.take k) (by rw [hcans])
     rw [hcans] at h1
     simpa [List.length_take, Nat.min_eq_left hk] using h1
    have hbd : ys0.length + 1 ≤ 1073741824 := by omega
    have Hle := q_ hlen
    clear hcans hown hflat hlen Hown
    go_wp2_with (at_builtin; refine za1 rfl (.tmp 23) (.tmp 25) 44 rfl w.heap.size 46 i0 (.agg zeroCells.toArray) 8 120 Tryz.underlying44 hi hz0 hz1 hz2 rfl (by decide) _ ys0.length xs rfl (zam Ho.out ((((Ext.refl wr).alloc _).trans HX1.out).alloc _ |>.alloc _)) (w1.heap.size + 1) 0 1 1 [.int .i64 k3, .bool b3, .int .i64 n3, .string t3, .string ut3, .string ui3, .slice A3 l3 c3, .slice A4 l4 c4] rfl rfl (zap _ _ (by simp)) Hy.out.one (by rw [zab]; omega) (by omega) (((HX.out.alloc _).trans HX1.out).alloc _ |>.alloc _).size ?_)
    intro v' w2 hown' hgrow hblk
    have Ho' := q_ hown'
    have Hg := q_ hgrow
    have Hb := q_ hblk
    clear hown' hgrow hblk
    go_wp2_with fail
    go_roundw
    case rel =>
     refine ⟨k + 1, by omega, by go_num, zbt (((HX.out.alloc _).trans HX1.out).alloc _ |>.alloc _) (zam Ho.out ((((Ext.refl wr).alloc _).trans HX1.out).alloc _ |>.alloc _)) Hg.out, ys0 ++ [x.can.1], _, ?_, by rw [List.length_append]; exact Ho'.out, ?_⟩
     ·rw [za8 Hx.out]; exact Val.cans_snoc He.out Hc.out
     ·exact flat_step Ho.out Hf.out (((Ext.refl wr).alloc _).trans HX1.out) (((Ext.refl w1).alloc _).alloc _) (by simp) HX.out.size Hy.out Hg.out (by simpa using Hb.out)
    case measure => simp [intOf]; omega
   ·have e0 : (x.can.2 != 0) = true := by simpa using he
    have He := q_ he
    clear he
    go_wp2_with fail
    go_ret2
    obtain ⟨ys0, xs, hcans, _, _⟩ := Hown.out
    have hbad : Val.cans l = ([], x.can.2) := by
     have := Val.cans_bad He.out (r := l.drop (k + 1)) hcans
     rwa [zb1 Hx.out] at this
    have hr : res = ([], x.can.2) := by rw [hi0.out, hbad, if_pos He.out]
    rw [hr]
    exact ⟨_, rfl, ⟨[], World.ownsRow_nil _ _ _ _, rfl⟩, ((HX.out.alloc _).trans HX1.out).alloc _⟩
  ·have hke : k = l.length := by omega
   subst hke
   obtain ⟨ys0, xs, hcans, hown, hflat⟩ := Hown.out
   rw [List.take_length] at hcans
   have Hc := q_ hcans
   have Ho := q_ hown
   have Hf := q_ hflat
   clear hcans hown hflat Hown
   by_cases hlg : 4096 < l.length
   ·go_wp2_with fail
    go_ret2
    have hr : res = ([], 12) := by rw [hi0.out, Hc.out]; simp [hlg]
    rw [hr]
    exact ⟨_, rfl, ⟨[], World.ownsRow_nil _ _ _ _, rfl⟩, HX.out⟩
   ·go_wp2_with fail
    go_ret2
    have hr : res = (ys0, 0) := by rw [hi0.out, Hc.out]; simp [hlg]
    rw [hr]
    exact ⟨_, rfl, ⟨xs, Ho.out, Hf.out⟩, HX.out⟩
end Go.Proofs.YtbkaffhbhimglaaGreat

/-
  Plain laws of values as they must be: what canon comes to is so, stays so, is as deep; sets with the same members are the same. No program in sight. The conditions: none (lemmas).
-/
namespace Go.Proofs.YtbkaffhbhimglaaGreat
open Go.RowKit
theorem Val.can_def (v : Val) : v.can = if v.kind = 1 then (.mk 1 v.bo 0 empty empty empty [] [], 0) else
  if v.kind = 2 then (.mk 2 false v.num empty empty empty [] [], 0) else
  if v.kind = 3 then (.mk 3 false 0 v.text empty empty [] [], 0) else
  if v.kind = 4 then (.mk 4 false 0 empty v.ut v.ui [] [], 0) else
  if v.kind = 5 then
   if (Val.cans v.items).2 ≠ 0 then (.zero, (Val.cans v.items).2) else
   if 4096 < v.items.length then (.zero, 12) else
   (.mk 5 false 0 empty empty empty (sortU Val.ord (Val.cans v.items).1) [], 0) else
  if v.kind = 6 then
   if v.names.length ≠ v.items.length then (.zero, 1) else
   if (Val.cans v.items).2 ≠ 0 then (.zero, (Val.cans v.items).2) else
   if 4096 < v.items.length then (.zero, 12) else zbe v.names (Val.cans v.items).1
  else (.zero, 1) := by
 cases v; rw [Val.can]; rfl
theorem Val.can5 (bo : Bool) (i : Int) (t ut ui : ByteArray) (items : List Val) (names : List ByteArray) : (Val.mk 5 bo i t ut ui items names).can = if (Val.cans items).2 ≠ 0 then (.zero, (Val.cans items).2) else if 4096 < items.length then (.zero, 12) else (.mk 5 false 0 empty empty empty (sortU Val.ord (Val.cans items).1) [], 0) := by simp [Val.can]
theorem Val.can6 (bo : Bool) (i : Int) (t ut ui : ByteArray) (items : List Val) (names : List ByteArray) : (Val.mk 6 bo i t ut ui items names).can = if names.length ≠ items.length then (.zero, 1) else if (Val.cans items).2 ≠ 0 then (.zero, (Val.cans items).2) else if 4096 < items.length then (.zero, 12) else zbe names (Val.cans items).1 := by simp [Val.can]
theorem Val.cans_mem : ∀ {l : List Val}, (Val.cans l).2 = 0 → ∀ x ∈ (Val.cans l).1, ∃ y ∈ l, y.can = (x, 0)
 | [], _, x, hx => by simp [Val.cans] at hx
 | y :: r, h, x, hx => by
  simp only [Val.cans] at h hx
  split at h
  ·rename_i h1; exact absurd h h1
  ·split at h
   ·rename_i h1; exact absurd h h1
   ·rename_i h1 h2
    simp at h1 h2
    simp [h1, h2] at hx
    rcases hx with rfl | hx
    ·exact ⟨y, by simp, by rw [← h1]⟩
    ·obtain ⟨z, hz, e⟩ := Val.cans_mem h2 x hx
     exact ⟨z, by simp [hz], e⟩
theorem record_cases (names : List ByteArray) (l : List Val) : (names.Nodup ∧ zbe names l = (.mk 6 false 0 empty empty empty ((sortU cmpN (names.zip l)).map (·.2)) ((sortU cmpN (names.zip l)).map (·.1)), 0)) ∨ (¬ names.Nodup ∧ zbe names l = (.zero, 13)) := by
 unfold zbe
 by_cases h : names.Nodup
 ·exact .inl ⟨h, by rw [if_pos h]⟩
 ·exact .inr ⟨h, by rw [if_neg h]⟩
theorem sortN_strict (l : List (ByteArray × Val)) : zb0 cmpS ((sortU cmpN l).map (·.1)) := by
 unfold zb0
 rw [List.pairwise_map]
 exact (za3 GoodAt.cmpN l).imp fun h => h
theorem sortN_len (l : List (ByteArray × Val)) : (sortU cmpN l).length ≤ l.length := by
 have key : ∀ (l a : List (ByteArray × Val)), (l.foldl (fun a x => ins cmpN x a) a).length ≤ l.length + a.length := by
  intro l
  induction l with
  | nil => intro a; simp
  | cons x r ih =>
   intro a
   rw [List.foldl_cons]
   have h1 := ih (ins cmpN x a)
   have h2 : ∀ a : List (ByteArray × Val), (ins cmpN x a).length ≤ a.length + 1 := by
    intro a
    induction a with
    | nil => simp [ins]
    | cons y s ih => simp only [ins]; split <;> (try split) <;> simp <;> omega
   have := h2 a
   simp; omega
 simpa [sortU] using key l []
theorem sortV_len (l : List Val) : (sortU Val.ord l).length ≤ l.length := by
 have key : ∀ (l a : List Val), (l.foldl (fun a x => ins Val.ord x a) a).length ≤ l.length + a.length := by
  intro l
  induction l with
  | nil => intro a; simp
  | cons x r ih =>
   intro a
   rw [List.foldl_cons]
   have h1 := ih (ins Val.ord x a)
   have h2 : ∀ a : List Val, (ins Val.ord x a).length ≤ a.length + 1 := by
    intro a
    induction a with
    | nil => simp [ins]
    | cons y s ih => simp only [ins]; split <;> (try split) <;> simp <;> omega
   have := h2 a
   simp; omega
 simpa [sortU] using key l []
theorem Val.can_is_at : ∀ (n : Nat) (v : Val), SizeOf.sizeOf v ≤ n → v.can.2 = 0 → v.can.1.Is
 | 0, v, h, _ => by cases v; simp at h
 | n + 1, v, h, h0 => by
  have hmem : (Val.cans v.items).2 = 0 → ∀ x ∈ (Val.cans v.items).1, x.Is := fun hc x hx => by
   obtain ⟨y, hy, e⟩ := Val.cans_mem hc x hx
   have := Val.can_is_at n y (by have := Val.mem_size hy; omega) (by rw [e])
   rwa [e] at this
  rw [Val.can_def] at h0 ⊢
  by_cases h1 : v.kind = 1
  ·rw [if_pos h1]; simp [Val.Is]
  rw [if_neg h1] at h0 ⊢
  by_cases h2 : v.kind = 2
  ·rw [if_pos h2]; simp [Val.Is]
  rw [if_neg h2] at h0 ⊢
  by_cases h3 : v.kind = 3
  ·rw [if_pos h3]; simp [Val.Is]
  rw [if_neg h3] at h0 ⊢
  by_cases h4 : v.kind = 4
  ·rw [if_pos h4]; simp [Val.Is]
  rw [if_neg h4] at h0 ⊢
  by_cases h5 : v.kind = 5
  ·rw [if_pos h5] at h0 ⊢
   by_cases hc : (Val.cans v.items).2 ≠ 0
   ·rw [if_pos hc] at h0; exact absurd h0 hc
   rw [if_neg hc] at h0 ⊢
   by_cases hl : 4096 < v.items.length
   ·rw [if_pos hl] at h0; cases h0
   rw [if_neg hl]
   simp only [ne_eq, Decidable.not_not] at hc
   have hlen := Val.cans_length hc
   have := sortV_len (Val.cans v.items).1
   unfold Val.Is
   refine .inr (.inr (.inr (.inr (.inl ⟨rfl, rfl, rfl, rfl, rfl, rfl, rfl, za3 Val.goodAt _, by omega, (Val.are_iff _).2 fun x hx => hmem hc x (zdz hx)⟩))))
  rw [if_neg h5] at h0 ⊢
  by_cases h6 : v.kind = 6
  ·rw [if_pos h6] at h0 ⊢
   by_cases hn : v.names.length ≠ v.items.length
   ·rw [if_pos hn] at h0; cases h0
   rw [if_neg hn] at h0 ⊢
   by_cases hc : (Val.cans v.items).2 ≠ 0
   ·rw [if_pos hc] at h0; exact absurd h0 hc
   rw [if_neg hc] at h0 ⊢
   by_cases hl : 4096 < v.items.length
   ·rw [if_pos hl] at h0; cases h0
   rw [if_neg hl] at h0 ⊢
   simp only [ne_eq, Decidable.not_not] at hc hn
   have hlen := Val.cans_length hc
   rcases record_cases v.names (Val.cans v.items).1 with ⟨_, e⟩ | ⟨_, e⟩
   ·rw [e]
    have := sortN_len (v.names.zip (Val.cans v.items).1)
    rw [List.length_zip] at this
    unfold Val.Is
    refine .inr (.inr (.inr (.inr (.inr ⟨rfl, rfl, rfl, rfl, rfl, rfl, by simp, sortN_strict _, by rw [List.length_map]; omega, (Val.are_iff _).2 fun x hx => ?_⟩))))
    obtain ⟨p, hp, rfl⟩ := List.mem_map.1 hx
    exact hmem hc _ (List.of_mem_zip (a := p.1) (b := p.2) (zdz hp)).2
   ·rw [e] at h0; cases h0
  rw [if_neg h6] at h0; cases h0
theorem Val.can_is {v : Val} (h : v.can.2 = 0) : v.can.1.Is := Val.can_is_at _ v (Nat.le_refl _) h
theorem Val.canon_ok {v : Val} (h : v.canon.2 = 0) : v.dep ≤ 50 ∧ v.canon = v.can ∧ v.can.2 = 0 := by
 unfold Val.canon at h ⊢
 by_cases hd : 50 < v.dep
 ·rw [if_pos hd] at h; cases h
 ·rw [if_neg hd] at h ⊢; exact ⟨by omega, rfl, h⟩
end Go.Proofs.YtbkaffhbhimglaaGreat

/-
  Entities as plain data: the order of names, what is above what, and what the taking away of those that nobody is below comes to. No program in sight. The conditions: none (definitions and lemmas).
-/
namespace Go.Proofs.YtbkaffhbhimglaaGreat
open Go.RowKit
abbrev Uid := ByteArray × ByteArray
def ordU (a b : Uid) : Int := zeb (cmpS a.1 b.1) (cmpS a.2 b.2)
theorem GoodAt.ordU (a : Uid) : GoodAt ordU a := GoodAt.both (GoodAt.cmpS _) (GoodAt.cmpS _)
theorem zeo {a b : Uid} (h : ordU a b = 0) : a = b := by
 unfold ordU zeb at h
 split at h
 ·rename_i h1; exact Prod.ext (zek h1) (zek h)
 ·rename_i h1; exact absurd h h1
structure Ent where
 uid : Uid
 ps : List Uid
 av : Val
def idx : List Uid → Uid → Option Nat
 | [], _ => none
 | x :: r, u => if x = u then some 0 else (idx r u).map (· + 1)
theorem idx_none {u : Uid} : ∀ {l : List Uid}, idx l u = none ↔ u ∉ l
 | [] => by simp [idx]
 | x :: r => by
  simp only [idx]
  by_cases h : x = u
  ·simp [h]
  ·rw [if_neg h]
   simp [idx_none (l := r), Ne.symm h]
theorem zet {u : Uid} : ∀ {l : List Uid} {i : Nat}, idx l u = some i → l[i]? = some u
 | [], _, h => by simp [idx] at h
 | x :: r, i, h => by
  simp only [idx] at h
  by_cases hx : x = u
  ·rw [if_pos hx] at h
   obtain rfl := Option.some.inj h
   simp [hx]
  ·rw [if_neg hx] at h
   obtain ⟨j, hj, rfl⟩ := Option.map_eq_some_iff.1 h
   simpa using zet hj
theorem idx_lt {u : Uid} {l : List Uid} {i : Nat} (h : idx l u = some i) : i < l.length := (List.getElem?_eq_some_iff.1 (zet h)).1
theorem za4 {u : Uid} : ∀ {l : List Uid} {i : Nat}, l.Nodup → l[i]? = some u → idx l u = some i
 | [], _, _, h => by simp at h
 | x :: r, 0, _, h => by simp at h; simp [idx, h]
 | x :: r, i + 1, hn, h => by
  have h' : r[i]? = some u := by simpa using h
  have hx : x ≠ u := fun e => (List.nodup_cons.1 hn).1 (e ▸ List.mem_of_getElem? h')
  simp [idx, hx, za4 (List.nodup_cons.1 hn).2 h']
theorem idx_mem {u : Uid} {l : List Uid} : u ∈ l ↔ ∃ i, idx l u = some i := by
 constructor
 ·intro h
  cases hi : idx l u with
  | none => exact absurd h (idx_none.1 hi)
  | some i => exact ⟨i, rfl⟩
 ·rintro ⟨i, hi⟩; exact List.mem_of_getElem? (zet hi)
def Above (l : List Ent) (u v : Uid) : Prop := ∃ e ∈ l, e.uid = u ∧ v ∈ e.ps ∧ v ∈ l.map Ent.uid
def Rounded (l : List Ent) : Prop := ∃ u ∈ l.map Ent.uid, ¬ Acc (Above l) u
theorem Above.congr {l m : List Ent} (h : ∀ e ∈ l, ∃ f ∈ m, f.uid = e.uid ∧ ∀ p, p ∈ e.ps → p ∈ f.ps) {u v : Uid} (hu : Above l u v) : Above m u v := by
 obtain ⟨e, he, rfl, hv, hm⟩ := hu
 obtain ⟨f, hf, hfu, hp⟩ := h e he
 refine ⟨f, hf, hfu, hp v hv, ?_⟩
 obtain ⟨x, hx, rfl⟩ := List.mem_map.1 hm
 obtain ⟨y, hy, hyu, _⟩ := h x hx
 exact List.mem_map.2 ⟨y, hy, hyu⟩
theorem Acc.mono {α : Type} {r s : α → α → Prop} (h : ∀ a b, r a b → s a b) {a : α} (k : Acc s a) : Acc r a := by
 induction k with
 | intro x _ ih => exact ⟨x, fun y hy => ih y (h y x hy)⟩
theorem Rounded.congr {l m : List Ent} (h : ∀ e ∈ l, ∃ f ∈ m, f.uid = e.uid ∧ ∀ p, p ∈ e.ps → p ∈ f.ps) (hr : Rounded l) : Rounded m := by
 obtain ⟨u, hu, ha⟩ := hr
 refine ⟨u, ?_, fun k => ha (Acc.mono (fun _ _ => Above.congr h) k)⟩
 obtain ⟨x, hx, rfl⟩ := List.mem_map.1 hu
 obtain ⟨y, hy, hyu, _⟩ := h x hx
 exact List.mem_map.2 ⟨y, hy, hyu⟩
def oneE (us : List Uid) (e : Ent) : Ent × Int :=
 if e.av.kind ≠ 6 then (⟨e.uid, [], .zero⟩, 1) else if e.av.canon.2 ≠ 0 then (⟨e.uid, [], .zero⟩, e.av.canon.2) else if e.ps.all (fun p => (idx us p).isSome) then (⟨e.uid, sortU ordU e.ps, e.av.canon.1⟩, 0) else (⟨e.uid, [], .zero⟩, 20)
def zbp (us : List Uid) : List Ent → List Ent × Int
 | [] => ([], 0)
 | e :: r => if (oneE us e).2 ≠ 0 then ([], (oneE us e).2) else if (zbp us r).2 ≠ 0 then ([], (zbp us r).2) else ((oneE us e).1 :: (zbp us r).1, 0)
def cmpE (a b : Ent) : Int := ordU a.uid b.uid
theorem GoodAt.cmpE (a : Ent) : GoodAt cmpE a := GoodAt.part (c := Go.Proofs.YtbkaffhbhimglaaGreat.ordU) Ent.uid (GoodAt.ordU a.uid)
open Classical in
noncomputable def zar (l : List Ent) : List Ent × Int :=
 if 4096 < l.length then ([], 12) else if ¬ (l.map Ent.uid).Nodup then ([], 13) else if (zbp (l.map Ent.uid) l).2 ≠ 0 then ([], (zbp (l.map Ent.uid) l).2) else
 if Rounded l then ([], 21) else (sortU cmpE (zbp (l.map Ent.uid) l).1, 0)
/-! ### numbered things, and which of them are above which -/
section kahn
variable (par : Nat → List Nat)
def zce (skip : Nat → Bool) (k : Nat) : Nat → Nat
 | 0 => 0
 | m + 1 => zce skip k m + if skip m then 0 else (par m).count k
variable {par}
theorem zdw {s t : Nat → Bool} {k : Nat} : ∀ {n : Nat}, (∀ i, i < n → s i = t i) → zce par s k n = zce par t k n
 | 0, _ => rfl
 | m + 1, h => by simp only [zce]; rw [zdw fun i hi => h i (by omega), h m (by omega)]
theorem cntOut_all {s : Nat → Bool} {k : Nat} : ∀ {n : Nat}, (∀ i, i < n → s i = true) → zce par s k n = 0
 | 0, _ => rfl
 | m + 1, h => by simp only [zce]; rw [cntOut_all fun i hi => h i (by omega), h m (by omega)]; rfl
theorem cntOut_one {s t : Nat → Bool} {i k : Nat} (hs : s i = true) (ht : t i = false) (h : ∀ j, j ≠ i → s j = t j) : ∀ {n : Nat}, i < n → zce par t k n = zce par s k n + (par i).count k
 | 0, h0 => by omega
 | m + 1, h0 => by
  simp only [zce]
  by_cases hm : i = m
  ·subst hm
   rw [hs, ht, zdw (s := t) (t := s) fun j hj => (h j (by omega)).symm]
   simp
  ·rw [cntOut_one hs ht h (n := m) (by omega), h m (Ne.symm hm)]
   omega
theorem cntOut_zero {s : Nat → Bool} {k : Nat} : ∀ {n : Nat}, zce par s k n = 0 → ∀ i, i < n → s i = false → k ∉ par i
 | 0, _, i, hi, _ => by omega
 | m + 1, h, i, hi, hs => by
  simp only [zce] at h
  by_cases hm : i = m
  ·subst hm
   rw [hs] at h
   exact List.count_eq_zero.1 (by simp at h ⊢; exact h.2)
  ·exact cntOut_zero (n := m) (by omega) i (by omega) hs
theorem cntOut_pos {s : Nat → Bool} {k : Nat} : ∀ {n : Nat}, zce par s k n ≠ 0 → ∃ i, i < n ∧ s i = false ∧ k ∈ par i
 | 0, h => by simp [zce] at h
 | m + 1, h => by
  simp only [zce] at h
  by_cases h1 : zce par s k m = 0
  ·rw [h1] at h
   cases hs : s m
   ·rw [hs] at h
    refine ⟨m, by omega, hs, ?_⟩
    have : (par m).count k ≠ 0 := fun e => h (by rw [e]; rfl)
    exact List.count_pos_iff.1 (by omega)
   ·rw [hs] at h; simp at h
  ·obtain ⟨i, hi, hs, hk⟩ := cntOut_pos (n := m) h1
   exact ⟨i, by omega, hs, hk⟩
theorem cntOut_le {s : Nat → Bool} {k M : Nat} : ∀ {n : Nat}, (∀ i, i < n → (par i).length ≤ M) → zce par s k n ≤ n * M
 | 0, _ => by simp [zce]
 | m + 1, h => by
  simp only [zce]
  have h1 := cntOut_le (s := s) (k := k) (n := m) fun i hi => h i (by omega)
  have h2 : (par m).count k ≤ M := Nat.le_trans List.count_le_length (h m (by omega))
  rw [Nat.succ_mul]
  split <;> omega
variable (par)
def Topo (n : Nat) : List Nat → Prop
 | [] => True
 | k :: R => (∀ i, i < n → k ∈ par i → i ∈ R) ∧ Topo n R
structure Mid3 (n : Nat) (R L rest : List Nat) (b : Nat → Nat) : Prop where
 nodup : (R ++ L).Nodup
 lt : ∀ k, k ∈ R ++ L → k < n
 topo : Topo par n R
 zero : ∀ k, k < n → (b k = 0 ↔ k ∈ R ++ L)
 sum : ∀ k, k < n → b k = zce par (fun i => decide (i ∈ R)) k n + rest.count k
variable {par}
theorem Mid3.pop {n : Nat} {R L : List Nat} {i : Nat} {b : Nat → Nat} (h : Mid3 par n R (L ++ [i]) [] b) : Mid3 par n (i :: R) L (par i) b := by
 have hp : (R ++ (L ++ [i])).Perm (i :: R ++ L) := by
  rw [← List.append_assoc]
  exact List.perm_append_singleton _ _
 have hi : i < n := h.lt i (by simp)
 have hn := hp.nodup_iff.1 h.nodup
 have hiR : i ∉ R := fun hm => (List.nodup_cons.1 hn).1 (by simp [hm])
 refine ⟨hn, fun k hk => h.lt k (hp.mem_iff.2 hk), ⟨fun j hj hm => ?_, h.topo⟩, fun k hk => (h.zero k hk).trans hp.mem_iff, fun k hk => ?_⟩
 ·have h0 : b i = 0 := (h.zero i hi).2 (by simp)
  have h1 := h.sum i hi
  by_cases hjR : j ∈ R
  ·exact hjR
  ·rw [h0, List.count_nil] at h1
   exact absurd hm (cntOut_zero (s := fun j => decide (j ∈ R)) (by omega) j hj (by simpa using hjR))
 ·rw [h.sum k hk, cntOut_one (s := fun j => decide (j ∈ i :: R)) (t := fun j => decide (j ∈ R)) (i := i) (by simp) (by simpa using hiR) (fun j hj => by simp [hj]) hi]
  simp
theorem Mid3.told {n : Nat} {R L rest : List Nat} {k : Nat} {b : Nat → Nat} (h : Mid3 par n R L (k :: rest) b) (hk : k < n) : 0 < b k ∧ k ∉ R ++ L := by
 have h1 := h.sum k hk
 have h2 : 0 < b k := by simp at h1; omega
 exact ⟨h2, fun hm => by have := (h.zero k hk).2 hm; omega⟩
theorem Mid3.last {n : Nat} {R L rest : List Nat} {k : Nat} {b : Nat → Nat} (h : Mid3 par n R L (k :: rest) b) (hk : k < n) (h1 : b k = 1) : Mid3 par n R (L ++ [k]) rest fun j => if j = k then 0 else b j := by
 obtain ⟨h2, h3⟩ := h.told hk
 have hp : (R ++ (L ++ [k])).Perm (k :: (R ++ L)) := by
  rw [← List.append_assoc]
  exact List.perm_append_singleton _ _
 refine ⟨hp.nodup_iff.2 (List.nodup_cons.2 ⟨h3, h.nodup⟩), fun j hj => ?_, h.topo, fun j hj => ?_, fun j hj => ?_⟩
 ·rcases List.mem_cons.1 (hp.mem_iff.1 hj) with rfl | h4
  ·exact hk
  ·exact h.lt j h4
 ·rw [hp.mem_iff]
  by_cases he : j = k
  ·simp [he]
  ·simp only [List.mem_cons, he, false_or]; exact h.zero j hj
 ·have h4 := h.sum j hj
  by_cases he : j = k
  ·subst he
   simp at h4 ⊢; omega
  ·rw [if_neg he, h4, List.count_cons_of_ne (Ne.symm he)]
theorem Mid3.more {n : Nat} {R L rest : List Nat} {k : Nat} {b : Nat → Nat} (h : Mid3 par n R L (k :: rest) b) (hk : k < n) (h1 : b k ≠ 1) : Mid3 par n R L rest fun j => if j = k then b k - 1 else b j := by
 obtain ⟨h2, h3⟩ := h.told hk
 refine ⟨h.nodup, h.lt, h.topo, fun j hj => ?_, fun j hj => ?_⟩
 ·by_cases he : j = k
  ·subst he
   simp only [if_pos]
   constructor
   ·intro h4; omega
   ·intro h4; exact absurd h4 h3
  ·rw [if_neg he]; exact h.zero j hj
 ·have h4 := h.sum j hj
  by_cases he : j = k
  ·subst he
   simp at h4 ⊢; omega
  ·rw [if_neg he, h4, List.count_cons_of_ne (Ne.symm he)]
theorem Topo.acc {n : Nat} : ∀ {R : List Nat}, Topo par n R → ∀ k ∈ R, Acc (fun i j => i < n ∧ j ∈ par i) k
 | [], _, _, h => by simp at h
 | x :: R, h, k, hk => by
  have ih := Topo.acc h.2
  rcases List.mem_cons.1 hk with rfl | hk
  ·exact ⟨k, fun i hi => ih i (h.1 i hi.1 hi.2)⟩
  ·exact ih k hk
theorem not_acc_of {α : Type} {r : α → α → Prop} {S : α → Prop} (h : ∀ k, S k → ∃ i, S i ∧ r i k) {k : α} (hk : S k) : ¬ Acc r k := fun ha => by
 induction ha with
 | intro x _ ih =>
  obtain ⟨i, hi, hr⟩ := h x hk
  exact ih i hr hi
theorem Mid3.done {n : Nat} {R : List Nat} {b : Nat → Nat} (h : Mid3 par n R [] [] b) {k : Nat} (hk : k < n) : Acc (fun i j => i < n ∧ j ∈ par i) k ↔ k ∈ R := by
 constructor
 ·intro ha
  by_cases hR : k ∈ R
  ·exact hR
  ·refine absurd ha (not_acc_of (S := fun k => k < n ∧ k ∉ R) (fun k hk => ?_) ⟨hk, hR⟩)
   have h0 : b k ≠ 0 := fun e => hk.2 (by simpa using (h.zero k hk.1).1 e)
   have h1 := h.sum k hk.1
   obtain ⟨i, hi, hs, hm⟩ := cntOut_pos (par := par) (s := fun i => decide (i ∈ R)) (k := k) (n := n) (by simp at h1; omega)
   exact ⟨i, ⟨hi, by simpa using hs⟩, hi, hm⟩
 ·exact h.topo.acc k
theorem za6 {α : Type} : ∀ {l m : List α}, l.Nodup → (∀ x ∈ l, x ∈ m) → l.length ≤ m.length
 | [], _, _, _ => by simp
 | x :: r, m, hn, h => by
  obtain ⟨h1, h2⟩ := List.nodup_cons.1 hn
  obtain ⟨s, t, rfl⟩ := List.append_of_mem (h x (by simp))
  have := za6 (l := r) (m := s ++ t) h2 fun y hy => by
   have := h y (by simp [hy])
   have hne : y ≠ x := fun e => h1 (e ▸ hy)
   simpa [hne] using this
  simp at this ⊢; omega
theorem zc0 {n : Nat} {R : List Nat} (hn : R.Nodup) (hl : ∀ k ∈ R, k < n) : R.length ≤ n ∧ (R.length = n ↔ ∀ k, k < n → k ∈ R) := by
 have h1 : R.length ≤ n := by simpa using za6 (m := List.range n) hn fun x hx => List.mem_range.2 (hl x hx)
 refine ⟨h1, fun h k hk => ?_, fun h => ?_⟩
 ·by_cases hm : k ∈ R
  ·exact hm
  ·have := za6 (l := k :: R) (m := List.range n) (List.nodup_cons.2 ⟨hm, hn⟩) fun x hx => by
    rcases List.mem_cons.1 hx with rfl | hx
    ·exact List.mem_range.2 hk
    ·exact List.mem_range.2 (hl x hx)
   simp at this; omega
 ·have := za6 (l := List.range n) (m := R) List.nodup_range fun x hx => h x (List.mem_range.1 hx)
  simp at this; omega
end kahn
/-! ### by number, and by name -/
def parN (l : List Ent) (i : Nat) : List Nat := match l[i]? with
 | some e => e.ps.filterMap (idx (l.map Ent.uid))
 | none => []
theorem parN_of {l : List Ent} {i : Nat} {e : Ent} (h : l[i]? = some e) : parN l i = e.ps.filterMap (idx (l.map Ent.uid)) := by simp [parN, h]
theorem above_iff {l : List Ent} (hn : (l.map Ent.uid).Nodup) {i k : Nat} {e f : Ent} (hi : l[i]? = some e) (hk : l[k]? = some f) : k ∈ parN l i ↔ Above l e.uid f.uid := by
 have hki : idx (l.map Ent.uid) f.uid = some k := za4 hn (by simp [hk])
 rw [parN_of hi, List.mem_filterMap]
 constructor
 ·rintro ⟨p, hp, hpi⟩
  have hpf : p = f.uid := by
   have h1 := zet hpi
   have h2 := zet hki
   rw [h1] at h2
   exact Option.some.inj h2
  subst hpf
  exact ⟨e, List.mem_of_getElem? hi, rfl, hp, List.mem_map.2 ⟨f, List.mem_of_getElem? hk, rfl⟩⟩
 ·rintro ⟨x, hx, hxe, hp, _⟩
  have : x = e := by
   obtain ⟨j, hj⟩ := List.mem_iff_getElem?.1 hx
   have h1 := za4 (u := e.uid) hn (i := j) (by simp [hj, hxe])
   have h2 := za4 (u := e.uid) hn (i := i) (by simp [hi])
   rw [h1] at h2
   obtain rfl := Option.some.inj h2
   rw [hi] at hj
   exact (Option.some.inj hj).symm
  subst this
  exact ⟨f.uid, hp, hki⟩
theorem acc_iff {l : List Ent} (hn : (l.map Ent.uid).Nodup) : ∀ {k : Nat} {f : Ent}, l[k]? = some f → (Acc (fun i j => i < l.length ∧ j ∈ parN l i) k ↔ Acc (Above l) f.uid) := by
 intro k f hk
 constructor
 ·intro h
  induction h generalizing f with
  | intro k _ ih =>
   refine ⟨_, fun u hu => ?_⟩
   have hu0 := hu
   obtain ⟨e, he, rfl, _⟩ := hu
   obtain ⟨i, hi⟩ := List.mem_iff_getElem?.1 he
   exact ih i ⟨(List.getElem?_eq_some_iff.1 hi).1, (above_iff hn hi hk).2 hu0⟩ hi
 ·intro h
  generalize hu : f.uid = u at h
  induction h generalizing k f with
  | intro u _ ih =>
   subst hu
   refine ⟨_, fun i hi => ?_⟩
   obtain ⟨e, he⟩ : ∃ e, l[i]? = some e := ⟨_, List.getElem?_eq_getElem hi.1⟩
   exact ih e.uid ((above_iff hn he hk).1 hi.2) he rfl
theorem parN_lt {l : List Ent} {i k : Nat} (h : k ∈ parN l i) : k < l.length := by
 unfold parN at h
 split at h
 ·obtain ⟨p, _, hp⟩ := List.mem_filterMap.1 h
  simpa using idx_lt hp
 ·simp at h
theorem rounded_of {l : List Ent} (hn : (l.map Ent.uid).Nodup) {R : List Nat} {b : Nat → Nat} (h : Mid3 (parN l) l.length R [] [] b) : Rounded l ↔ R.length < l.length := by
 have hR : R.Nodup := by simpa using h.nodup
 obtain ⟨h1, h2⟩ := zc0 hR fun k hk => h.lt k (by simp [hk])
 constructor
 ·rintro ⟨u, hu, ha⟩
  obtain ⟨f, hf, rfl⟩ := List.mem_map.1 hu
  obtain ⟨k, hk⟩ := List.mem_iff_getElem?.1 hf
  have hkl := (List.getElem?_eq_some_iff.1 hk).1
  have : k ∉ R := fun hm => ha ((acc_iff hn hk).1 ((h.done hkl).2 hm))
  rcases Nat.lt_or_ge R.length l.length with h3 | h3
  ·exact h3
  ·exact absurd (h2.1 (by omega) k hkl) this
 ·intro h3
  have : ¬ ∀ k, k < l.length → k ∈ R := fun hall => by have := h2.2 hall; omega
  obtain ⟨k, hk⟩ := Classical.not_forall.1 this
  obtain ⟨hkl, hkR⟩ := Classical.not_imp.1 hk
  obtain ⟨f, hf⟩ : ∃ f, l[k]? = some f := ⟨_, List.getElem?_eq_getElem hkl⟩
  exact ⟨f.uid, List.mem_map.2 ⟨f, List.mem_of_getElem? hf, rfl⟩, fun ha => hkR ((h.done hkl).1 ((acc_iff hn hf).2 ha))⟩
end Go.Proofs.YtbkaffhbhimglaaGreat

/-
  Maps from entities' names to numbers: what one holds, name by name; ranging over one. The conditions: none (definitions and lemmas).
-/
namespace Go.Proofs.YtbkaffhbhimglaaGreat
open Go.RowKit Go.Maps
set_option maxRecDepth 100000
theorem Tryz.wideU : (match Tryz.prog.underlying 43 with | some (.array _ _) | some (.struct _) => true | _ => false) = true := by rw [Tryz.underlying43]
theorem Tryz.laidU : laidOutB Tryz.prog = true := by kernel_rfl
theorem Tryz.keyU : Tryz.prog.keyType 43 = true := by kernel_rfl
theorem Tryz.lawU : Keyed Tryz.prog 43 := Keyed.of_law (deep_law_laid Tryz.laidU (m := 2) (by omega) (of_decide_eq_true (by kernel_rfl)) (by kernel_rfl) Tryz.wideU)
theorem Tryz.zeroI (w : World) : (zeroValue 3).run Tryz.prog w = .ok (.int .i64 0) w := by kernel_rfl
theorem Tryz.cellsU : Tryz.prog.cellsOf 43 = 2 := by kernel_rfl
theorem Tryz.cellsS : Tryz.prog.cellsOf 9 = 1 := by kernel_rfl
theorem Tryz.typesU : ∃ n, Tryz.prog.types.size + 1 = n + 2 := ⟨Tryz.prog.types.size - 1, by have : 1 ≤ Tryz.prog.types.size := of_decide_eq_true (by kernel_rfl); omega⟩
def FitU (u : Uid) : Prop := u.1.size ≤ maxLen ∧ u.2.size ≤ maxLen
def valU (u : Uid) : Value := .agg #[.string u.1, .string u.2]
def litU (u : Uid) : Lit := .string (keyBytes [.string u.1.data.toList, .string u.2.data.toList])
theorem keyU_lits (a b : Value) (n : Nat) : Tryz.prog.keyLits (n + 2) 43 [a, b] = ((Tryz.prog.keyLits (n + 1) 9 [a]).bind fun x => (Tryz.prog.keyLits (n + 1) 9 [b]).map fun y => x ++ y) := by
 conv => lhs; unfold Program.keyLits
 simp only [Tryz.underlying43, Tryz.cellsU]
 cases h1 : Tryz.prog.keyLits (n + 1) 9 [a] <;> cases h2 : Tryz.prog.keyLits (n + 1) 9 [b] <;> simp [Tryz.cellsS, h1, h2]
theorem zcv {u : Uid} (h : FitU u) : keyOf Tryz.prog 43 (valU u) = some (litU u) := by
 obtain ⟨n, hn⟩ := Tryz.typesU
 have hs : ∀ s : ByteArray, s.size ≤ maxLen → Tryz.prog.keyLits (n + 1) 9 [.string s] = some [.string s.data.toList] := fun s hs => by
  unfold Program.keyLits
  simp [Tryz.underlying9, hs]
 unfold keyOf valU litU
 simp only [Tryz.underlying43, Tryz.keyU, Value.formed, Tryz.cellsU, hn]
 simp only [Value.cells, keyU_lits, hs _ h.1, hs _ h.2]
 rfl
theorem uid_of_key {v : Value} {kl : Lit} (h : keyOf Tryz.prog 43 v = some kl) : ∃ u, v = valU u ∧ FitU u ∧ kl = litU u := by
 obtain ⟨n, hn⟩ := Tryz.typesU
 have h0 := h
 unfold keyOf at h
 simp only [Tryz.underlying43, Tryz.keyU, hn] at h
 cases v with
 | agg cs =>
  simp only [Value.formed, Tryz.underlying43, Tryz.cellsU, Bool.true_and] at h
  split at h
  ·rename_i hs
   have hs0 : cs.toList.length = 2 := by simpa using hs
   clear hs
   obtain ⟨a, b, hab⟩ : ∃ a b, cs.toList = [a, b] := by
    match cs.toList, hs0 with
    | [a, b], _ => exact ⟨a, b, rfl⟩
   have hcs : cs = #[a, b] := by rw [← Array.toArray_toList (xs := cs), hab]
   subst hcs
   have hstr : ∀ x l, Tryz.prog.keyLits (n + 1) 9 [x] = some l → ∃ s : ByteArray, x = .string s ∧ s.size ≤ maxLen := fun x l hl => by
    unfold Program.keyLits at hl
    simp only [Tryz.underlying9] at hl
    cases x <;> simp at hl
    exact ⟨_, rfl, hl.1⟩
   simp only [Value.cells, keyU_lits] at h
   cases h1 : Tryz.prog.keyLits (n + 1) 9 [a] with
   | none => rw [h1] at h; simp at h
   | some l1 =>
    cases h2 : Tryz.prog.keyLits (n + 1) 9 [b] with
    | none => rw [h1, h2] at h; simp at h
    | some l2 =>
     obtain ⟨s, rfl, hs1⟩ := hstr a l1 h1
     obtain ⟨t, rfl, hs2⟩ := hstr b l2 h2
     refine ⟨(s, t), rfl, ⟨hs1, hs2⟩, ?_⟩
     have := zcv (u := (s, t)) ⟨hs1, hs2⟩
     rw [show valU (s, t) = .agg #[.string s, .string t] from rfl, h0] at this
     exact Option.some.inj this
  ·cases h
 | _ => simp [Value.formed, Tryz.underlying43] at h
theorem litU_inj {u v : Uid} (hu : FitU u) (hv : FitU v) (h : litU u = litU v) : u = v := by
 have h1 := zcv hu
 have h2 := zcv hv
 rw [h] at h1
 have := Tryz.lawU.inj h1 h2
 unfold valU at this
 cases u; cases v
 injection this with this
 injection this with this
 injection this with a b
 injection a with a
 injection b with b
 injection b with b
 exact Prod.ext a b
theorem litU_same {u v : Uid} (hu : FitU u) (hv : FitU v) : (litU u).sameKey (litU v) = decide (u = v) := by
 by_cases h : u = v
 ·subst h
  rw [WideAt.sameKey_self (Tryz.lawU.key (zcv hu))]; simp
 ·rw [sameKey_ne fun e => h (litU_inj hu hv e)]; simp [h]
structure ReadsU (D : DataW Unit) (m : Uid → Option Nat) : Prop where
 has : ∀ u, FitU u → Maps.has D (litU u) = (m u).isSome
 at' : ∀ u i, FitU u → m u = some i → D.atKey (litU u) (.lit (.int .i64 0)) = .lit (.int .i64 i)
 keys : ∀ kl, Maps.has D kl = true → ∃ u, FitU u ∧ kl = litU u
def MapU (w : World) (b : Nat) (m : Uid → Option Nat) (cnt : Nat) : Prop :=
 ∃ D n, w.ownsMap Tryz.prog 43 (plainElem Tryz.prog 3) b n D ∧ n ≤ 1073741824 ∧ ReadsU D m ∧ Maps.size D = cnt ∧ (∀ u i, m u = some i → i ≤ 1073741824)
theorem MapU.made (w : World) : MapU (w.alloc (.map #[] 0)) w.heap.size (fun _ => none) 0 :=
 ⟨_, 0, World.ownsMap_made _ _ _ _, by omega, ⟨fun _ _ => rfl, fun _ _ _ h => by simp at h, fun _ h => by simp [Maps.has] at h⟩, rfl, fun _ _ h => by simp at h⟩
theorem MapU.block {w w' : World} {b : Nat} {m : Uid → Option Nat} {cnt : Nat} (h : MapU w b m cnt) (hb : w'.heap[b]? = w.heap[b]?) : MapU w' b m cnt := by
 obtain ⟨D, n, ⟨es, clock, h1, h2⟩, h3⟩ := h
 exact ⟨D, n, ⟨es, clock, hb.trans h1, h2⟩, h3⟩
theorem MapU.lt {w : World} {b : Nat} {m : Uid → Option Nat} {cnt : Nat} (h : MapU w b m cnt) : b < w.heap.size := by
 obtain ⟨D, n, h1, _⟩ := h; exact h1.lt
theorem MapU.ext {w w' : World} {b : Nat} {m : Uid → Option Nat} {cnt : Nat} (h : MapU w b m cnt) (k : Ext w w') : MapU w' b m cnt := h.block (k.block _ h.lt)
theorem MapU.congr {w : World} {b : Nat} {m m' : Uid → Option Nat} {cnt : Nat} (h : MapU w b m cnt) (he : ∀ u, m u = m' u) : MapU w b m' cnt := by
 have : m = m' := funext he
 rw [← this]; exact h
theorem MapU.isMap {w : World} {b : Nat} {m : Uid → Option Nat} {cnt : Nat} (h : MapU w b m cnt) : ∃ es clock, w.heap[b]? = some (.map es clock) := by
 obtain ⟨D, n, ⟨es, clock, h1, _⟩, _⟩ := h; exact ⟨es, clock, h1⟩
section
variable {ops : Array Oper} {rest : List Oper} {o : Oper} {a : Act} {w : World} {Q : Exit → Act → World → Prop}
theorem zbu (hg : o.guard = none) (x k : Operand) (hop : o.op = Op.lookup 90 x k true) (b : Nat) (m : Uid → Option Nat) (cnt : Nat) (hm : a.eval x = .map (some b)) (h : MapU w b m cnt) (u : Uid) (hu : FitU u) (hx : a.eval k = valU u)
  (bb : Bool) (hbb : (m u).isSome = bb) (hK : ∀ c : Nat, (∀ i, m u = some i → c = i) → c ≤ 1073741824 → wpList Tryz.prog ops Q rest (a.put o.dst (.tuple #[.int .i64 c, .bool bb])) w) : wpList Tryz.prog ops Q (o :: rest) a w := by
 subst hbb
 obtain ⟨D, n, hown, hn, hr, hc, hle⟩ := h
 refine wpList_lookup_own_ok_int w hg x k _ hop _ _ .i64 Tryz.lawU Tryz.underlying90 Tryz.underlying3 (Tryz.zeroI _) b n D hm hown _ (litU u) hx (zcv hu) fun c hat hwc => ?_
 rw [hr.has u hu]
 cases hmu : m u with
 | none =>
  have h0 := atKey_of_not_has (D := D) (k := litU u) (by rw [hr.has u hu, hmu]; rfl) (.lit (.int .i64 0))
  rw [hat] at h0
  injection h0 with h0
  injection h0 with _ h0
  subst h0
  have := hK 0 (fun i hi => by rw [hmu] at hi; cases hi) (by omega)
  rw [hmu] at this
  exact this
 | some i =>
  have h0 := hr.at' u i hu hmu
  rw [hat] at h0
  injection h0 with h0
  injection h0 with _ h0
  subst h0
  have := hK i (fun j hj => by rw [hmu] at hj; exact Option.some.inj hj) (hle u i hmu)
  rw [hmu] at this
  exact this
theorem wpList_update_uid (hg : o.guard = none) (x k v : Operand) (hop : o.op = Op.mapUpdate 90 x k v) (b : Nat) (m : Uid → Option Nat) (cnt : Nat) (hm : a.eval x = .map (some b)) (h : MapU w b m cnt) (hcnt : cnt ≤ 1048576) (u : Uid) (hu : FitU u) (hx : a.eval k = valU u)
  (i : Nat) (hi : i ≤ 1073741824) (hv : a.eval v = .int .i64 i) (hK : ∀ w', MapU w' b (fun y => if y = u then some i else m y) (cnt + if (m u).isSome then 0 else 1) → GrownBy w w' (some b) → wpList Tryz.prog ops Q rest (a.put o.dst undef) w') : wpList Tryz.prog ops Q (o :: rest) a w := by
 obtain ⟨D, n, hown, hn, hr, hc, hle⟩ := h
 -- a tighter bound: the entries are so many
 have hown' : w.ownsMap Tryz.prog 43 (plainElem Tryz.prog 3) b cnt D := by
  obtain ⟨es, clock, h1, h2, h3, rfl⟩ := hown
  refine ⟨es, clock, h1, h2, ?_, rfl⟩
  rw [← hc]
  simp only [Maps.size, length_sorted, List.length_map, Array.length_toList]; omega
 refine wpList_plain hg fun K' hK' => ?_
 obtain ⟨w', hrun, r1, r2⟩ := hown'.store (val := .int .i64 i) Tryz.lawU Tryz.underlying90 (by unfold maxLen; omega) (zcv hu) (plainElem_int Tryz.underlying3 (WalkArith.wf_i64 (by omega)))
 have hdr : w.drawn ≤ w'.drawn := zed _ _ _ _ hrun
 have hkl := Tryz.lawU.key (zcv hu)
 unfold Oper.wp
 simp [execOp, hop, hm, hx, hv, hrun, Result.andThen]
 refine hK' _ _ (hK w' ⟨_, cnt + 1, r1, by omega, ⟨fun y hy => ?_, fun y j hy hj => ?_, fun kl hkl => ?_⟩, ?_, fun y j hj => ?_⟩ ⟨r2.grown, hdr⟩)
 ·by_cases he : y = u
  ·subst he
   rw [has_put_same hown.isMap hkl]; simp
  ·rw [has_put_other fun e => he (litU_inj hy hu e), if_neg he, hr.has y hy]
 ·by_cases he : y = u
  ·subst he
   rw [if_pos rfl] at hj
   obtain rfl := Option.some.inj hj
   rw [atKey_put_same hown.isMap hkl]
  ·rw [if_neg he] at hj
   rw [atKey_put_other fun e => he (litU_inj hy hu e), hr.at' y j hy hj]
 ·by_cases he : kl = litU u
  ·exact ⟨u, hu, he⟩
  ·rw [has_put_other he] at hkl
   exact hr.keys kl hkl
 ·rw [size_put (hown.tidy Tryz.lawU), hc, hr.has u hu]
  split <;> simp_all
 ·dsimp only at hj
  by_cases he : y = u
  ·rw [if_pos he] at hj
   obtain rfl := Option.some.inj hj
   exact hi
  ·rw [if_neg he] at hj
   exact hle y j hj
theorem zd9 (hg : o.guard = none) (x : Operand) (hop : o.op = Op.call { callee := .builtin .len, args := #[x], argTypes := #[90] }) (b : Nat) (m : Uid → Option Nat) (cnt : Nat) (hm : a.eval x = .map (some b)) (h : MapU w b m cnt)
  (hK : wpList Tryz.prog ops Q rest (a.put o.dst (.int .i64 cnt)) w) : wpList Tryz.prog ops Q (o :: rest) a w := by
 obtain ⟨D, n, hown, hn, hr, hc, hle⟩ := h
 refine wpList_plain hg fun K' hK' => ?_
 have hrun := hown.len (P := Tryz.prog) Tryz.underlying90 o.type
 unfold Oper.wp
 simp [execOp, hop, resolve, invoke, builtin, hm, hrun, Result.andThen, hc]
 exact hK' _ _ hK
def RangeU (w : World) (b r : Nat) (m : Uid → Option Nat) (left : Uid → Bool) (cnt : Nat) : Prop :=
 ∃ D n lf, w.ranges Tryz.prog 43 (plainElem Tryz.prog 3) b r n D lf cnt ∧ ReadsU D m ∧ (∀ u i, m u = some i → i ≤ 1073741824) ∧ (∀ u, FitU u → lf (litU u) = left u) ∧ ∀ kl, lf kl = true → ∃ u, FitU u ∧ kl = litU u
theorem RangeU.block {w w' : World} {b r : Nat} {m : Uid → Option Nat} {left : Uid → Bool} {cnt : Nat} (h : RangeU w b r m left cnt) (hb : w'.heap[b]? = w.heap[b]?) (hr : w'.heap[r]? = w.heap[r]?) : RangeU w' b r m left cnt := by
 obtain ⟨D, n, lf, ⟨es, clock, since, seen, c0, h1, h2, h3, h4, h5, h6⟩, h7⟩ := h
 exact ⟨D, n, lf, ⟨es, clock, since, seen, c0, hb.trans h1, h2, h3, h4, hr.trans h5, h6⟩, h7⟩
theorem RangeU.lt {w : World} {b r : Nat} {m : Uid → Option Nat} {left : Uid → Bool} {cnt : Nat} (h : RangeU w b r m left cnt) : b < w.heap.size ∧ r < w.heap.size := by
 obtain ⟨D, n, lf, h1, _⟩ := h; exact ⟨h1.owns.lt, h1.lt⟩
theorem RangeU.ext {w w' : World} {b r : Nat} {m : Uid → Option Nat} {left : Uid → Bool} {cnt : Nat} (h : RangeU w b r m left cnt) (k : Ext w w') : RangeU w' b r m left cnt := h.block (k.block _ h.lt.1) (k.block _ h.lt.2)
theorem RangeU.isIter {w : World} {b r : Nat} {m : Uid → Option Nat} {left : Uid → Bool} {cnt : Nat} (h : RangeU w b r m left cnt) : ∃ x y z, w.heap[r]? = some (.mapIter (some b) x y z) := by
 obtain ⟨D, n, lf, ⟨es, clock, since, seen, c0, h1, h2, h3, h4, h5, h6⟩, h7⟩ := h
 exact ⟨_, _, _, h5⟩
theorem RangeU.left_eq {w : World} {b r : Nat} {m : Uid → Option Nat} {left : Uid → Bool} {cnt : Nat} (h : RangeU w b r m left cnt) : w.rangeLeft b r = cnt := by
 obtain ⟨D, n, lf, h1, _⟩ := h; exact h1.left_eq
theorem wpList_range_uid (hg : o.guard = none) (x : Operand) (hop : o.op = Op.range 90 x) (b : Nat) (m : Uid → Option Nat) (cnt : Nat) (hm : a.eval x = .map (some b)) (h : MapU w b m cnt) (r : Nat) (hr : r = w.heap.size)
  (hK : ∀ w', RangeU w' b r m (fun u => (m u).isSome) cnt → Ext w w' → w'.heap.size = w.heap.size + 1 → wpList Tryz.prog ops Q rest (a.put o.dst (.pointer (some ⟨r, 0, none⟩))) w') : wpList Tryz.prog ops Q (o :: rest) a w := by
 subst hr
 obtain ⟨D, n, hown, hn, hr, hc, hle⟩ := h
 refine wpList_plain hg fun K' hK' => ?_
 obtain ⟨w', hrun, r1, r2, r3⟩ := hown.range Tryz.lawU Tryz.underlying90
 have hdr : w.drawn ≤ w'.drawn := zed _ _ _ _ hrun
 unfold Oper.wp
 simp [execOp, hop, hm, hrun, Result.andThen]
 exact hK' _ _ (hK w' ⟨D, n, _, hc ▸ r1, hr, hle, hr.has, hr.keys⟩ ⟨⟨r2.os, r2.tape, r2.output, r2.size, fun i hi => r2.block i hi (by simp)⟩, hdr⟩ r3)
theorem wpList_next_uid (hg : o.guard = none) (it : Operand) (hop : o.op = Op.next it false) (b r : Nat) (m : Uid → Option Nat) (left : Uid → Bool) (cnt : Nat) (hit : a.eval it = .pointer (some ⟨r, 0, none⟩)) (h : RangeU w b r m left cnt)
  (hDone : cnt = 0 → (∀ u, FitU u → left u = false) → wpList Tryz.prog ops Q rest (a.put o.dst (.tuple #[.bool false])) w)
  (hMore : ∀ (u : Uid) (i : Nat) (w' : World) (cnt' : Nat), FitU u → left u = true → m u = some i → i ≤ 1073741824 → RangeU w' b r m (fun y => left y && !decide (y = u)) cnt' → cnt' < cnt → GrownBy w w' (some r) → w'.heap.size = w.heap.size →
   (Instr.entry (.pointer (some ⟨r, 0, none⟩))).run Tryz.prog w' = .ok (.tuple #[valU u, .int .i64 i]) w' → wpList Tryz.prog ops Q rest (a.put o.dst (.tuple #[.bool true, valU u, .int .i64 i])) w') :
  wpList Tryz.prog ops Q (o :: rest) a w := by
 obtain ⟨D, n, lf, hrg, hr, hle, hl1, hl2⟩ := h
 refine wpList_plain hg fun K' hK' => ?_
 unfold Oper.wp
 rcases hrg.next Tryz.lawU o.type with ⟨h0, hl, hrun⟩ | ⟨key, v, kl, y, w', cnt', hkey, hlk, hv, hat, hrun, hrg', hlt, hgr, hsz, hen⟩
 ·simp [execOp, hop, hit, hrun, Result.andThen]
  exact hK' _ _ (hDone h0 fun u hu => by rw [← hl1 u hu]; exact hl _)
 ·have hdr : w.drawn ≤ w'.drawn := zed _ _ _ _ hrun
  obtain ⟨u, rfl, hu, rfl⟩ := uid_of_key hkey
  obtain ⟨c, rfl, rfl, hwc⟩ := plainElem_int_inv Tryz.underlying3 hv
  have hhas : Maps.has D (litU u) = true := has_true_of_atKey hat
  rw [hr.has u hu] at hhas
  obtain ⟨i, hi⟩ := Option.isSome_iff_exists.1 hhas
  have h0 := hr.at' u i hu hi
  rw [hat] at h0
  injection h0 with h0
  injection h0 with _ h0
  subst h0
  simp [execOp, hop, hit, hrun, Result.andThen]
  refine hK' _ _ (hMore u i w' cnt' hu (by rw [← hl1 u hu]; exact hlk) hi (hle u i hi) ⟨D, n, _, hrg', hr, hle, fun y hy => ?_, fun kl hkl => hl2 kl ?_⟩ hlt ⟨hgr, hdr⟩ hsz hen)
  ·rw [hl1 y hy, litU_same hy hu]
  ·simp only [Bool.and_eq_true] at hkl; exact hkl.1
end
end Go.Proofs.YtbkaffhbhimglaaGreat

/-
  The library's compaction of a row of values that a call has made itself. The conditions: none beyond the contract's own.
-/
namespace Go.Proofs.YtbkaffhbhimglaaGreat
open Go.RowKit
open Lib renaming hid → q_
set_option maxRecDepth 100000
set_option maxHeartbeats 1600000
/-! ### rows of eight cells -/
theorem zcu : ∀ {rows : List (List Value)} {i j : Nat} {cs : List Value} {v : Value}, (∀ r ∈ rows, r.length = 8) → rows[i]? = some cs → cs[j]? = some v → rows.flatten[i * 8 + j]? = some v
 | [], _, _, _, _, _, h, _ => by simp at h
 | r :: rs, 0, j, cs, v, hl, h, hj => by
  simp at h; subst h
  rw [List.flatten_cons, List.getElem?_append_left (by simpa using (List.getElem?_eq_some_iff.1 hj).1)]
  simpa using hj
 | r :: rs, i + 1, j, cs, v, hl, h, hj => by
  have h8 := hl r (by simp)
  rw [List.flatten_cons, List.getElem?_append_right (by omega), show (i + 1) * 8 + j - r.length = i * 8 + j by omega]
  exact zcu (fun x hx => hl x (by simp [hx])) (by simpa using h) hj
theorem zcz : ∀ {rows : List (List Value)}, (∀ r ∈ rows, r.length = 8) → rows.flatten.length = rows.length * 8
 | [], _ => rfl
 | r :: rs, hl => by
  have h8 := hl r (by simp)
  rw [List.flatten_cons, List.length_append, zcz fun x hx => hl x (by simp [hx])]
  simp; omega
theorem flatten_set : ∀ {rows : List (List Value)} {i : Nat} {cs : List Value}, (∀ r ∈ rows, r.length = 8) → i < rows.length → cs.length = 8 →
  rows.flatten.take (i * 8) ++ cs ++ rows.flatten.drop (i * 8 + 8) = (rows.set i cs).flatten
 | [], _, _, _, h, _ => by simp at h
 | r :: rs, 0, cs, hl, _, hc => by
  have h8 := hl r (by simp)
  simp [h8]
 | r :: rs, i + 1, cs, hl, h, hc => by
  have h8 := hl r (by simp)
  have ih := flatten_set (rows := rs) (i := i) (cs := cs) (fun x hx => hl x (by simp [hx])) (by simpa using h) hc
  rw [List.set_cons_succ, List.flatten_cons, List.flatten_cons, ← ih]
  rw [List.take_append, List.drop_append, List.take_of_length_le (by omega), List.drop_eq_nil_iff.2 (by omega), show (i + 1) * 8 - r.length = i * 8 by omega, show (i + 1) * 8 + 8 - r.length = i * 8 + 8 by omega]
  simp
theorem flatten_take : ∀ {rows : List (List Value)} {k : Nat}, (∀ r ∈ rows, r.length = 8) → (rows.take k).flatten = rows.flatten.take (k * 8)
 | [], _, _ => by simp
 | r :: rs, 0, _ => by simp
 | r :: rs, k + 1, hl => by
  have h8 := hl r (by simp)
  rw [List.take_succ_cons, List.flatten_cons, List.flatten_cons, flatten_take (rows := rs) (k := k) fun x hx => hl x (by simp [hx]), List.take_append, List.take_of_length_le (l := r) (by omega), show (k + 1) * 8 - r.length = k * 8 by omega]
theorem rows_of : ∀ (n : Nat) (l : List Value), l.length = n * 8 → ∃ rows : List (List Value), rows.length = n ∧ (∀ r ∈ rows, r.length = 8) ∧ rows.flatten = l
 | 0, l, h => ⟨[], rfl, by simp, by have : l = [] := List.eq_nil_of_length_eq_zero (by simpa using h); simp [this]⟩
 | n + 1, l, h => by
  obtain ⟨rows, h1, h2, h3⟩ := rows_of n (l.drop 8) (by simp; omega)
  refine ⟨l.take 8 :: rows, by simp [h1], fun r hr => ?_, by simp [h3]⟩
  rcases List.mem_cons.1 hr with rfl | hr
  ·simp; omega
  ·exact h2 r hr
/-! ### what compaction comes to, one element more -/
theorem dedupFrom_snoc {α : Type} {c : α → α → Int} {y : α} : ∀ (l : List α) (p : α), zbb c p (l ++ [y]) = zbb c p l ++ (if c y ((p :: l).getLast (by simp)) = 0 then [] else [y])
 | [], p => by simp only [List.nil_append, zbb, List.getLast_singleton]; rfl
 | z :: r, p => by
  simp only [List.cons_append, zbb]
  have h := dedupFrom_snoc (c := c) (y := y) r z
  rw [List.getLast_cons (by simp)]
  split
  ·rw [h]
  ·rw [h]; rfl
theorem dedup_snoc {α : Type} {c : α → α → Int} {y q : α} {l : List α} (hq : l.getLast? = some q) : zbo c (l ++ [y]) = zbo c l ++ (if c y q = 0 then [] else [y]) := by
 cases l with
 | nil => simp at hq
 | cons x r =>
  rw [List.getLast?_eq_some_getLast (by simp)] at hq
  injection hq with hq
  simp only [List.cons_append, zbo, dedupFrom_snoc, hq]
theorem zbj {α : Type} {c : α → α → Int} {l : List α} {k : Nat} {x y : α} (hx : l[k]? = some x) (hy : l[k + 1]? = some y) : zbo c (l.take (k + 1 + 1)) = zbo c (l.take (k + 1)) ++ (if c y x = 0 then [] else [y]) := by
 rw [za8 hy, dedup_snoc (q := x)]
 rw [za8 hx]; simp
theorem zcf {α : Type} {c : α → α → Int} {l : List α} : ∀ {k : Nat}, k + 1 ≤ l.length → (∀ i x y, i < k → l[i]? = some x → l[i + 1]? = some y → c y x ≠ 0) → zbo c (l.take (k + 1)) = l.take (k + 1)
 | 0, h, _ => by
  cases l with
  | nil => simp at h
  | cons x r => simp [zbo, zbb]
 | k + 1, h, hall => by
  have hx : l[k]? = some l[k] := List.getElem?_eq_getElem (by omega)
  have hy : l[k + 1]? = some l[k + 1] := List.getElem?_eq_getElem (by omega)
  rw [zbj hx hy, zcf (k := k) (by omega) fun i x y hi => hall i x y (by omega), if_neg (hall k _ _ (by omega) hx hy), ← za8 hy]
/-! ### worlds -/
theorem GrownBy.trans {a b c : World} {r : Option Nat} (h : GrownBy a b r) (k : GrownBy b c r) : GrownBy a c r :=
 ⟨⟨k.os.trans h.os, k.tape.trans h.tape, k.output.trans h.output, Nat.le_trans h.size k.size, fun i hi hne => (k.block i (Nat.lt_of_lt_of_le hi h.size) hne).trans (h.block i hi hne)⟩, Nat.le_trans h.drawn k.drawn⟩
theorem GrownBy.of_ext {a b : World} (r : Option Nat) (h : Ext a b) : GrownBy a b r := ⟨⟨h.os, h.tape, h.output, h.size, fun i hi _ => h.block i hi⟩, h.drawn⟩
theorem GrownBy.setRow (w : World) (g : Nat) (cs : Array Value) : GrownBy w (w.setRow g cs) (some g) :=
 ⟨⟨rfl, rfl, rfl, by simp [World.setRow], fun i _ hne => by
  simp only [World.setRow, Array.getElem?_modify]
  rw [if_neg (fun e => hne (by rw [e]))]⟩, Nat.le_refl _⟩
theorem zbx {w : World} {g : Nat} {cur : Array Value} {T : TypeId} (h : w.heap[g]? = some (.cells cur T (0, 0))) (cs : Array Value) : (w.setRow g cs).heap[g]? = some (.cells cs T (0, 0)) := by
 simp [World.setRow, Array.getElem?_modify, h]
theorem zah {P : Program} {ops : Array Oper} {rest : List Oper} {op : Oper} {a : Act} {w : World} {Q : Exit → Act → World → Prop} (hgd : op.guard = none) (ty : TypeId) (x y : Operand) (ho : op.op = .store ty x y)
  (g off : Nat) (hx : a.eval x = .pointer (some ⟨g, off, none⟩)) (cs : List Value) (hy : a.eval y = .agg cs.toArray) {n : Nat} (hz : ∀ w, (Go.sizeOf ty).run P w = .ok n w) (hn : cs.length = n)
  (T : TypeId) (cur : Array Value) (hg : w.heap[g]? = some (.cells cur T (0, 0))) (hl : off + cs.length ≤ cur.size) (h1 : ∀ v ∈ cs, v.oneCell' = true)
  (hk : wpList P ops Q rest (a.put op.dst undef) (w.setRow g (cur.toList.take off ++ cs ++ cur.toList.drop (off + cs.length)).toArray)) : wpList P ops Q (op :: rest) a w :=
 wpList_plain hgd fun K hK => by
  have hst := run_storeCells_at (P := P) g off T cs 0 cur w hg (by simpa using hl) h1
  simp only [Nat.add_zero] at hst
  have hst' : (storeVar ty ⟨g, off, none⟩ (.agg cs.toArray)).run P w = .ok () (w.setRow g (cur.toList.take off ++ cs ++ cur.toList.drop (off + cs.length)).toArray) := by
   simp [storeVar, hz, Value.cells, hn, hst]
  unfold Oper.wp execOp
  simp only [ho, hx, hy, Instr.storeAt, Instr.sureAddr, Sem.run_bind, Sem.run_pure, Result.andThen_ok, hst']
  exact hK _ _ hk
structure Mid (S : Nat → Prop) (w : World) (g cap : Nat) (T : TypeId) (l : List Val) (n0 kk q : Nat) (wr : World) : Prop where
 grown : GrownBy w wr (some g)
 len : (zbo Val.ord (l.take (n0 + q + 1))).length = kk
 le : kk ≤ n0 + q
 rows : ∃ rows : List (List Value), wr.heap[g]? = some (.cells rows.flatten.toArray T (0, 0)) ∧ rows.length = cap ∧ (∀ r ∈ rows, r.length = 8) ∧
  (∀ (i : Nat) (x : Val), (zbo Val.ord (l.take (n0 + q + 1)))[i]? = some x → ∃ cs, rows[i]? = some cs ∧ Val.At S w x cs) ∧ (∀ (i : Nat) (x : Val), n0 + q ≤ i → l[i]? = some x → ∃ cs, rows[i]? = some cs ∧ Val.At S w x cs)
theorem Mid.ext {S : Nat → Prop} {w wr w' : World} {g cap : Nat} {T : TypeId} {l : List Val} {n0 kk q : Nat} (h : Mid S w g cap T l n0 kk q wr) (k : Ext wr w') : Mid S w g cap T l n0 kk q w' := by
 obtain ⟨rows, h1, h2⟩ := h.rows
 exact ⟨h.grown.trans (GrownBy.of_ext _ k), h.len, h.le, rows, (k.block _ (zad h1)).trans h1, h2⟩
theorem Mid.alike {S : Nat → Prop} {w wr : World} {g cap : Nat} {T : TypeId} {l : List Val} {n0 kk q : Nat} (h : Mid S w g cap T l n0 kk q wr) (hS : ∀ b, S b → b < w.heap.size) (hg : ¬ S g) : Alike S w wr :=
 fun b hb => h.grown.block b (hS b hb) (fun e => by injection e with e; subst e; exact hg hb)
theorem Mid.old {S : Nat → Prop} {w wr : World} {g cap : Nat} {T : TypeId} {l : List Val} {n0 kk q : Nat} {x y : Val} (h : Mid S w g cap T l n0 kk q wr) (hx : l[n0 + q]? = some x) (hy : l[n0 + q + 1]? = some y) (h0 : y.ord x = 0) :
  Mid S w g cap T l n0 kk (q + 1) wr := by
 have hd : zbo Val.ord (l.take (n0 + q + 1 + 1)) = zbo Val.ord (l.take (n0 + q + 1)) := by rw [zbj hx hy, if_pos h0, List.append_nil]
 obtain ⟨rows, h1, h2, h3, h4, h5⟩ := h.rows
 refine ⟨h.grown, ?_, by have := h.le; omega, rows, h1, h2, h3, ?_, fun i z hi => h5 i z (by omega)⟩
 ·rw [show n0 + (q + 1) + 1 = n0 + q + 1 + 1 by omega, hd]; exact h.len
 ·rw [show n0 + (q + 1) + 1 = n0 + q + 1 + 1 by omega, hd]; exact h4
theorem Mid.new {S : Nat → Prop} {w wr : World} {g cap : Nat} {T : TypeId} {l : List Val} {n0 kk q : Nat} {x y : Val} {cur : Array Value} {cs : List Value} (h : Mid S w g cap T l n0 kk q wr) (hx : l[n0 + q]? = some x) (hy : l[n0 + q + 1]? = some y) (h0 : y.ord x ≠ 0)
  (hcur : wr.heap[g]? = some (.cells cur T (0, 0))) (hcs : Val.At S w y cs) (hcap : l.length ≤ cap) :
  Mid S w g cap T l n0 (kk + 1) (q + 1) (wr.setRow g (cur.toList.take (kk * 8) ++ cs ++ cur.toList.drop (kk * 8 + cs.length)).toArray) := by
 have hd : zbo Val.ord (l.take (n0 + q + 1 + 1)) = zbo Val.ord (l.take (n0 + q + 1)) ++ [y] := by rw [zbj hx hy, if_neg h0]
 obtain ⟨rows, h1, h2, h3, h4, h5⟩ := h.rows
 rw [h1] at hcur
 injection hcur with hcur
 injection hcur with hcur
 subst hcur
 have hle := h.le
 have hyl : n0 + q + 1 < l.length := (List.getElem?_eq_some_iff.1 hy).1
 have h8 := hcs.length
 have hk : kk < rows.length := by omega
 have hset : (rows.flatten.toArray.toList.take (kk * 8) ++ cs ++ rows.flatten.toArray.toList.drop (kk * 8 + cs.length)) = (rows.set kk cs).flatten := by
  rw [h8]; simpa using flatten_set h3 hk h8
 rw [hset]
 refine ⟨h.grown.trans (GrownBy.setRow _ _ _), ?_, by omega, rows.set kk cs, zbx h1 _, by simpa using h2, fun r hr => ?_, fun i z hi => ?_, fun i z hi hz => ?_⟩
 ·rw [show n0 + (q + 1) + 1 = n0 + q + 1 + 1 by omega, hd, List.length_append, h.len]; rfl
 ·rcases List.mem_or_eq_of_mem_set hr with hr | rfl
  ·exact h3 r hr
  ·exact h8
 ·rw [show n0 + (q + 1) + 1 = n0 + q + 1 + 1 by omega, hd] at hi
  by_cases hik : i < kk
  ·rw [List.getElem?_append_left (by rw [h.len]; exact hik)] at hi
   obtain ⟨c, hc, hat⟩ := h4 i z hi
   exact ⟨c, by rw [List.getElem?_set_ne (by omega)]; exact hc, hat⟩
  ·rw [List.getElem?_append_right (by rw [h.len]; omega), h.len] at hi
   have : i = kk := by
    have := (List.getElem?_eq_some_iff.1 hi).1
    simp at this; omega
   subst this
   simp at hi; subst hi
   exact ⟨cs, by rw [List.getElem?_set_self hk], hcs⟩
 ·obtain ⟨c, hc, hat⟩ := h5 i z (by omega) hz
  exact ⟨c, by rw [List.getElem?_set_ne (by omega)]; exact hc, hat⟩
theorem Mid.finish {S : Nat → Prop} {w wr w' : World} {base g cap : Nat} {T : TypeId} {l : List Val} {n0 kk q : Nat} (h : Mid S w g cap T l n0 kk q wr) (hq : n0 + q + 1 = l.length) (hg : base ≤ g) (hcap : l.length ≤ cap) (hcm : cap ≤ maxLen)
  (hgl : g < w.heap.size) (hS : ∀ b, S b → base ≤ b ∧ b < w.heap.size ∧ b ≠ g) (zs : List Value) (hz : zs.length = (l.length - kk) * 8) {cur : Array Value} (hcur : wr.heap[g]? = some (.cells cur T (0, 0)))
  (hw : w' = wr.setRow g (cur.toList.take (kk * 8) ++ zs ++ cur.toList.drop (kk * 8 + zs.length)).toArray) :
  ∃ xs', w'.ownsRow base T 8 (.slice (some ⟨g, 0, none⟩) kk cap) (zbo Val.ord l).length xs' ∧ Flat (Made base w' (.slice (some ⟨g, 0, none⟩) kk cap)) w' (zbo Val.ord l) xs' ∧ Below base w w' ∧ w.drawn ≤ w'.drawn := by
 have hgr := h.grown
 obtain ⟨rows, h1, h2, h3, h4, h5⟩ := h.rows
 have hlen := h.len
 have hle := h.le
 rw [hq, List.take_length] at hlen h4
 rw [h1] at hcur
 injection hcur with hcur
 injection hcur with hcur
 subst hcur
 have hgr' : GrownBy w w' (some g) := by rw [hw]; exact hgr.trans (GrownBy.setRow _ _ _)
 have hh := zbx h1 (rows.flatten.toArray.toList.take (kk * 8) ++ zs ++ rows.flatten.toArray.toList.drop (kk * 8 + zs.length)).toArray
 rw [← hw] at hh
 have hfl := zcz h3
 refine ⟨rows.flatten.take (kk * 8), ⟨by rw [List.length_take, hfl, hlen]; omega, .inr ⟨g, cap, _, by rw [hlen], hg, hh, by omega, hcm, ?_, ?_⟩⟩, ?_, ⟨hgr'.os, hgr'.tape, hgr'.output, hgr'.size, fun b hb => hgr'.block b ?_ ?_⟩, hgr'.drawn⟩
 ·simp only [List.size_toArray, List.length_append, List.length_take, List.length_drop, hfl, hz]; omega
 ·rw [hlen]
  dsimp only
  rw [List.append_assoc, List.take_append_of_le_length (by rw [List.length_take, hfl]; omega), List.take_of_length_le (by rw [List.length_take, hfl]; omega)]
 ·rw [← flatten_take h3]
  have hal : Alike S w w' := fun b hb => hgr'.block b (hS b hb).2.1 (fun e => by injection e with e; exact (hS b hb).2.2 e)
  have key : ∀ (d : List Val) (rs : List (List Value)), rs.length = d.length → (∀ (i : Nat) (x : Val), d[i]? = some x → ∃ cs, rs[i]? = some cs ∧ Val.At S w x cs) → Flat S w' d rs.flatten := by
   intro d
   induction d with
   | nil => intro rs hr _; have : rs = [] := List.eq_nil_of_length_eq_zero hr; subst this; rfl
   | cons x r ih =>
    intro rs hr hd
    cases rs with
    | nil => simp at hr
    | cons c cs =>
     obtain ⟨c', hc', hat⟩ := hd 0 x rfl
     simp at hc'; subst hc'
     exact ⟨c, cs.flatten, by simp, hat.alike hal, ih cs (by simpa using hr) fun i y hy => by simpa using hd (i + 1) y (by simpa using hy)⟩
  refine (key (zbo Val.ord l) (rows.take kk) (by rw [List.length_take, hlen]; omega) fun i x hi => ?_).mono fun b hb => ⟨(hS b hb).1, Nat.lt_of_lt_of_le (hS b hb).2.1 hgr'.size, fun e => (hS b hb).2.2 (by injection e with e; exact e.symm)⟩
  have hik : i < kk := by rw [← hlen]; exact (List.getElem?_eq_some_iff.1 hi).1
  rw [List.getElem?_take, if_pos hik]
  exact h4 i x hi
 ·omega
 ·intro e; injection e with e; omega
theorem zdx {P : Program} {ops : Array Oper} {rest : List Oper} {op : Oper} {a : Act} {w : World} {Q : Exit → Act → World → Prop} (hgd : op.guard = none) (x : Operand) (t e : TypeId)
  (ho : op.op = .call { callee := .builtin .clear, args := #[x], argTypes := #[t] }) (ht : P.underlying t = some (.slice e)) (z : List Value) (hv : ∀ w, (zeroValue e).run P w = .ok (.agg z.toArray) w) (h1 : ∀ v ∈ z, v.oneCell' = true)
  (g off n c : Nat) (hx : a.eval x = .slice (some ⟨g, off, none⟩) n c) (hn : 0 < n) (T : TypeId) (cur : Array Value) (hg : w.heap[g]? = some (.cells cur T (0, 0))) (hl : off + n * z.length ≤ cur.size)
  (hk : ∀ zs : List Value, zs.length = n * z.length → wpList P ops Q rest (a.put op.dst (.tuple #[])) (w.setRow g (cur.toList.take off ++ zs ++ cur.toList.drop (off + zs.length)).toArray)) : wpList P ops Q (op :: rest) a w :=
 wpList_plain hgd fun K hK => by
  have hzl : (Builtin.zeroCells z.toArray n).toList.length = n * z.length := by simp [Builtin.zeroCells]
  have hz1 : ∀ v ∈ (Builtin.zeroCells z.toArray n).toList, v.oneCell' = true := by
   intro v hv'
   simp only [Builtin.zeroCells, Array.toList_map, List.mem_map] at hv'
   obtain ⟨i, hi, rfl⟩ := hv'
   simp at hi
   have hzp : 0 < z.length := by
    rcases Nat.eq_zero_or_pos z.length with h0 | h0
    ·rw [h0] at hi; omega
    ·exact h0
   have hm : i % z.toArray.size < z.toArray.size := Nat.mod_lt _ (by simpa using hzp)
   rw [getElem!_pos z.toArray (i % z.toArray.size) hm]
   exact h1 _ (by simp)
  have hst := run_storeCells_at (P := P) g off T (Builtin.zeroCells z.toArray n).toList 0 cur w hg (by rw [hzl]; simpa using hl) hz1
  simp only [Nat.add_zero] at hst
  obtain ⟨m, rfl⟩ : ∃ m, n = m + 1 := ⟨n - 1, by omega⟩
  have hrun : (Builtin.clear_ #[t] op.type #[.slice (some ⟨g, off, none⟩) (m + 1) c]).run P w = .ok (.tuple #[]) (w.setRow g (cur.toList.take off ++ (Builtin.zeroCells z.toArray (m + 1)).toList ++ cur.toList.drop (off + (Builtin.zeroCells z.toArray (m + 1)).toList.length)).toArray) := by
   simp [Builtin.clear_, run_underlying ht, hv, Value.cells, hst]
  unfold Oper.wp execOp
  simp only [ho, resolve, invoke, builtin, Sem.run_bind, Sem.run_pure, Result.andThen_ok, List.map_toArray, List.map_cons, List.map_nil, hx, hrun]
  exact hK _ _ (hk _ hzl)
theorem zco : ∀ v ∈ zeroCells, v.oneCell' = true := by decide
theorem Tryz.zero27 : ∀ w, (zeroValue 46).run Tryz.prog w = .ok (.agg zeroCells.toArray) w := fun _ => by kernel_rfl
theorem compactV_ok (base : Nat) (w : World) (v : Value) (l : List Val) (xs : List Value) (hown : w.ownsRow base 46 8 v l.length xs) (hf : Flat (Made base w v) w l xs) (hl : l.length ≤ LIM) :
  Calls Tryz.prog 96 #[v, .func (.func 97) #[] #[]] w fun e w' =>
   ∃ v', e = .returned v' ∧ ∃ xs', w'.ownsRow base 46 8 v' (zbo Val.ord l).length xs' ∧ Flat (Made base w' v') w' (zbo Val.ord l) xs' ∧ Below base w w' ∧ w.drawn ≤ w'.drawn := by
 obtain ⟨hx, hv⟩ := id hown
 have hS0 : ∃ S : Nat → Prop, (∀ b, S b → base ≤ b ∧ b < w.heap.size ∧ v.ownBlock ≠ some b) ∧ Flat S w l xs := ⟨_, fun b hb => hb, hf⟩
 obtain ⟨S, hSm, hfS⟩ := hS0
 rw [zak] at hl
 have HF := q_ hf
 have HOwn := q_ hown
 by_cases h2 : l.length < 2
 ·have hd : zbo Val.ord l = l := by
   match l, h2 with
   | [], _ => rfl
   | [x], _ => rfl
  rw [hd]
  obtain ⟨A, cap, rfl⟩ : ∃ A cap, v = .slice A l.length cap := by
   rcases hv with ⟨rfl, hn⟩ | ⟨g, cap, cur, rfl, _⟩
   ·exact ⟨none, 0, by rw [hn]⟩
   ·exact ⟨_, _, rfl⟩
  clear hf hown hfS hSm hv hx hd
  go_enter Tryz.func96, Tryz.ntmps96
  go_wp2_with fail
  go_ret
  exact ⟨_, rfl, xs, HOwn.out, HF.out, Below.refl _ _, Nat.le_refl _⟩
 rcases hv with ⟨rfl, hn⟩ | ⟨g, cap, cur, rfl, hg, hh, hnc, hcm, hcur, htake⟩
 ·omega
 obtain ⟨rows, hr1, hr2, hr3⟩ := rows_of cap cur.toList (by simpa using hcur)
 have hcurr : cur = rows.flatten.toArray := by rw [hr3]
 subst hcurr
 -- each element has its row
 have hrow : ∀ i x, l[i]? = some x → ∃ cs, rows[i]? = some cs ∧ Val.At S w x cs := fun i x hix => by
  obtain ⟨cs, c1, c2, c3⟩ := hfS.get hix
  have hil : i < l.length := (List.getElem?_eq_some_iff.1 hix).1
  have hir : i < rows.length := by omega
  refine ⟨rows[i], List.getElem?_eq_getElem hir, ?_⟩
  have hrl := hr2 rows[i] (List.getElem_mem hir)
  have : rows[i] = cs := by
   apply List.ext_getElem?
   intro j
   by_cases hj : j < 8
   ·have e1 := zcu (rows := rows) (i := i) (j := j) hr2 (List.getElem?_eq_getElem hir) (List.getElem?_eq_getElem (by omega))
    have e2 := c3 j cs[j] (List.getElem?_eq_getElem (by omega))
    rw [← htake, List.getElem?_take, if_pos (by omega)] at e2
    dsimp only at e2
    rw [e1] at e2
    rw [List.getElem?_eq_getElem (by omega), List.getElem?_eq_getElem (by omega)]
    exact e2
   ·rw [List.getElem?_eq_none (by omega), List.getElem?_eq_none (by omega)]
  rw [this]; exact c2
 have hSg : ∀ b, S b → b < w.heap.size := fun b hb => (hSm b hb).2.1
 have hgl := zad hh
 rw [zab] at hcm
 have HR := q_ hrow
 have HS := q_ hSg
 have HSm := q_ hSm
 have Hh := q_ hh
 have H8 := q_ hr2
 have Hr1 := q_ hr1
 have Hgl := q_ hgl
 clear hf hown hfS hSm hx hrow hSg hh hr2 hcur htake hr3 hr1 hgl
 have hn2 : 2 ≤ l.length := by omega
 clear h2
 go_enter Tryz.func96, Tryz.ntmps96
 go_wp2_with fail
 go_loopw [5] (fun i wr => ∃ k : Nat, k + 1 ≤ l.length ∧ i = .int .i64 ((k + 1 : Nat) : Int) ∧ Ext w wr ∧ Hid (∀ i x y, i < k → l[i]? = some x → l[i + 1]? = some y → y.ord x ≠ 0)) (fun i _ => l.length - (intOf i).toNat)
 case atStart => exact ⟨0, by omega, rfl, Ext.refl w, fun _ _ _ h => by omega⟩
 case round =>
  obtain ⟨k, hk, rfl, hext, Hall⟩ := hrel
  have HX := q_ hext
  clear hext
  have ek : ((k + 1 : Nat) : Int) = (k : Int) + 1 := by omega
  rw [ek]
  clear ek
  by_cases hlt : k + 1 < l.length
  ·obtain ⟨x, hx⟩ : ∃ x, l[k]? = some x := ⟨_, List.getElem?_eq_getElem (by omega)⟩
   obtain ⟨y, hy⟩ : ∃ y, l[k + 1]? = some y := ⟨_, List.getElem?_eq_getElem hlt⟩
   obtain ⟨cx, hcx, hxa⟩ := HR.out k x hx
   obtain ⟨cy, hcy, hya⟩ := HR.out (k + 1) y hy
   have hxa' := hxa.alike (Alike.of_ext HX.out HS.out)
   have hya' := hya.alike (Alike.of_ext HX.out HS.out)
   obtain ⟨k1, b1, n1, t1, ut1, ui1, A1, l1, c1, A3, l3, c3, rfl⟩ := hxa.shape
   obtain ⟨k2, b2, n2, t2, ut2, ui2, A4, l4, c4, A5, l5, c5, rfl⟩ := hya.shape
   have hcax : CellsAt wr g (k * 8) [.int .i64 k1, .bool b1, .int .i64 n1, .string t1, .string ut1, .string ui1, .slice A1 l1 c1, .slice A3 l3 c3] := fun j u hj => by
    rw [cell_of_row _ _ _ _ _ _ ((HX.out.block _ Hgl.out).trans Hh.out)]
    simpa using zcu H8.out hcx hj
   have hcay : CellsAt wr g ((k + 1) * 8) [.int .i64 k2, .bool b2, .int .i64 n2, .string t2, .string ut2, .string ui2, .slice A4 l4 c4, .slice A5 l5 c5] := fun j u hj => by
    rw [cell_of_row _ _ _ _ _ _ ((HX.out.block _ Hgl.out).trans Hh.out)]
    simpa using zcu H8.out hcy hj
   have Hx := q_ hx
   have Hy := q_ hy
   have Hxa := q_ hxa'
   have Hya := q_ hya'
   have HSr := q_ (show ∀ b, S b → b < wr.heap.size from fun b hb => Nat.lt_of_lt_of_le (HS.out b hb) HX.out.size)
   have f0 := zaa (show wr.cell? ⟨g, k * 8, none⟩ = some (.int .i64 k1) by simpa using hcax 0 _ rfl)
   have f1 := zaa (show wr.cell? ⟨g, k * 8 + 1, none⟩ = some (.bool b1) by simpa using hcax 1 _ rfl)
   have f2 := zaa (show wr.cell? ⟨g, k * 8 + 2, none⟩ = some (.int .i64 n1) by simpa using hcax 2 _ rfl)
   have f3 := zaa (show wr.cell? ⟨g, k * 8 + 3, none⟩ = some (.string t1) by simpa using hcax 3 _ rfl)
   have f4 := zaa (show wr.cell? ⟨g, k * 8 + 4, none⟩ = some (.string ut1) by simpa using hcax 4 _ rfl)
   have f5 := zaa (show wr.cell? ⟨g, k * 8 + 5, none⟩ = some (.string ui1) by simpa using hcax 5 _ rfl)
   have f6 := zaa (show wr.cell? ⟨g, k * 8 + 6, none⟩ = some (.slice A1 l1 c1) by simpa using hcax 6 _ rfl)
   have f7 := zaa (show wr.cell? ⟨g, k * 8 + 7, none⟩ = some (.slice A3 l3 c3) by simpa using hcax 7 _ rfl)
   have h0 := zaa (show wr.cell? ⟨g, (k + 1) * 8, none⟩ = some (.int .i64 k2) by simpa using hcay 0 _ rfl)
   have h1 := zaa (show wr.cell? ⟨g, (k + 1) * 8 + 1, none⟩ = some (.bool b2) by simpa using hcay 1 _ rfl)
   have h2 := zaa (show wr.cell? ⟨g, (k + 1) * 8 + 2, none⟩ = some (.int .i64 n2) by simpa using hcay 2 _ rfl)
   have h3 := zaa (show wr.cell? ⟨g, (k + 1) * 8 + 3, none⟩ = some (.string t2) by simpa using hcay 3 _ rfl)
   have h4 := zaa (show wr.cell? ⟨g, (k + 1) * 8 + 4, none⟩ = some (.string ut2) by simpa using hcay 4 _ rfl)
   have h5 := zaa (show wr.cell? ⟨g, (k + 1) * 8 + 5, none⟩ = some (.string ui2) by simpa using hcay 5 _ rfl)
   have h6 := zaa (show wr.cell? ⟨g, (k + 1) * 8 + 6, none⟩ = some (.slice A4 l4 c4) by simpa using hcay 6 _ rfl)
   have h7 := zaa (show wr.cell? ⟨g, (k + 1) * 8 + 7, none⟩ = some (.slice A5 l5 c5) by simpa using hcay 7 _ rfl)
   clear hx hy hcx hcy hxa hya hxa' hya' hcax hcay
   have q1 : (0 : Int) ≤ (k : Int) + 1 := by omega
   have q2 : (k : Int) + 1 < l.length := by omega
   have q3 : ((k : Int) + 1).toNat = k + 1 := by omega
   have q4 : IntKind.i64.wrap ((k : Int) + 1 - 1) = (k : Int) := by rw [show (k : Int) + 1 - 1 = k by omega]; exact IntWalk.i64_in _ (by omega)
   have q5 : IntKind.i64.wrap (k : Int) = (k : Int) := IntWalk.i64_in _ (by omega)
   have q6 : (k : Int) < l.length := by omega
   have q7 : (0 : Int) ≤ (k : Int) := by omega
   have q8 : k < l.length := by omega
   go_wp2_with fail
   refine zae (by kernel_rfl) (by kernel_rfl) ?_
   repeat (quiet_step ((go_at_call 97; exact zan (fun w1 hw1 => same_ok y x S w1 [_, _, _, _, _, _, _, _] [_, _, _, _, _, _, _, _] (fun b hb => Nat.lt_of_lt_of_le (HSr.out b hb) hw1.size) (Hya.out.alike (Alike.of_ext hw1 HSr.out)) (Hxa.out.alike (Alike.of_ext hw1 HSr.out))) _ _)))
   refine wpQuiet_nil ?_
   intro w2 hw2
   have HX2 := q_ hw2
   clear hw2 f0 f1 f2 f3 f4 f5 f6 f7 h0 h1 h2 h3 h4 h5 h6 h7 q1 q2 q3 q4 q5 q6 q7
   by_cases he : y.ord x = 0
   ·have e0 : (y.ord x == 0) = true := by simpa using he
    have He := q_ he
    clear he
    have hmid0 : Mid S w g cap 46 l (k + 1) (k + 1) 0 w2 := by
     have hd : zbo Val.ord (l.take (k + 1 + 0 + 1)) = l.take (k + 1) := by
      rw [Nat.add_zero, zbj Hx.out Hy.out, if_pos He.out, List.append_nil, zcf (by omega) Hall.out]
     have hx2 := HX.out.trans HX2.out
     refine ⟨GrownBy.of_ext _ hx2, by rw [hd, List.length_take]; omega, by omega, rows, (hx2.block _ Hgl.out).trans Hh.out, Hr1.out, H8.out, fun i z hi => ?_, fun i z _ hz => HR.out i z hz⟩
     rw [hd, List.getElem?_take] at hi
     split at hi
     ·exact HR.out i z hi
     ·cases hi
    have HM0 := q_ hmid0
    clear hmid0 Hall Hx Hy Hxa Hya HSr HX2 HX He
    rw [e0]
    clear e0
    go_wp2_with fail
    go_loopw [5, 7] (fun u i wr => ∃ (kk q : Nat), k + 1 + q + 1 ≤ l.length ∧ kk ≤ k + 1 + q ∧ u = .int .i64 kk ∧ i = .int .i64 ((q + 1 : Nat) : Int) ∧ Hid (Mid S w g cap 46 l (k + 1) kk q wr)) (fun _ i _ => l.length - (intOf i).toNat)
    case atStart => exact ⟨k + 1, 0, by omega, by omega, by go_num, rfl, HM0.out⟩
    case round =>
     clear HM0
     obtain ⟨kk, q, hq, hkq, rfl, rfl, HM⟩ := hrel
     have ek : ((q + 1 : Nat) : Int) = (q : Int) + 1 := by omega
     rw [ek]
     clear ek
     have elen : ((l.length - (k + 1) : Nat) : Int) = (l.length : Int) - (k + 1) := by omega
     by_cases hql : k + 1 + q + 1 < l.length
     ·obtain ⟨x, hx⟩ : ∃ x, l[k + 1 + q]? = some x := ⟨_, List.getElem?_eq_getElem (by omega)⟩
      obtain ⟨y, hy⟩ : ∃ y, l[k + 1 + q + 1]? = some y := ⟨_, List.getElem?_eq_getElem hql⟩
      obtain ⟨rows', m1, m2, m3, m4, m5⟩ := HM.out.rows
      have hal := HM.out.alike HS.out (fun h => (HSm.out g h).2.2 rfl)
      obtain ⟨cx, hcx, hxa⟩ := m5 _ x (by omega) hx
      obtain ⟨cy, hcy, hya⟩ := m5 _ y (by omega) hy
      have hxa' := hxa.alike hal
      have hya' := hya.alike hal
      obtain ⟨k5, b5, n5, t5, ut5, ui5, A6, l6, c6, A7, l7, c7, rfl⟩ := hxa.shape
      obtain ⟨k6, b6, n6, t6, ut6, ui6, A8, l8, c8, A9, l9, c9, rfl⟩ := hya.shape
      have hcax : CellsAt wr g ((k + 1) * 8 + q * 8) [.int .i64 k5, .bool b5, .int .i64 n5, .string t5, .string ut5, .string ui5, .slice A6 l6 c6, .slice A7 l7 c7] := fun j u hj => by
       rw [cell_of_row _ _ _ _ _ _ m1, show (k + 1) * 8 + q * 8 + j = (k + 1 + q) * 8 + j by omega]
       simpa using zcu m3 hcx hj
      have hcay : CellsAt wr g ((k + 1) * 8 + (q + 1) * 8) [.int .i64 k6, .bool b6, .int .i64 n6, .string t6, .string ut6, .string ui6, .slice A8 l8 c8, .slice A9 l9 c9] := fun j u hj => by
       rw [cell_of_row _ _ _ _ _ _ m1, show (k + 1) * 8 + (q + 1) * 8 + j = (k + 1 + q + 1) * 8 + j by omega]
       simpa using zcu m3 hcy hj
      have HSr := q_ (show ∀ b, S b → b < wr.heap.size from fun b hb => Nat.lt_of_lt_of_le (HS.out b hb) HM.out.grown.size)
      have Hm1 := q_ m1
      have Hsz : cap * 8 = rows'.flatten.toArray.size := by have := zcz m3; simp only [List.size_toArray]; omega
      have HSz := q_ Hsz
      have Hx := q_ hx
      have Hy := q_ hy
      have Hxa := q_ hxa'
      have Hya := q_ hya'
      have Hya0 := q_ hya
      have Hcy := q_ hcay
      have f0 := zaa (show wr.cell? ⟨g, (k + 1) * 8 + q * 8, none⟩ = some (.int .i64 k5) by simpa using hcax 0 _ rfl)
      have f1 := zaa (show wr.cell? ⟨g, (k + 1) * 8 + q * 8 + 1, none⟩ = some (.bool b5) by simpa using hcax 1 _ rfl)
      have f2 := zaa (show wr.cell? ⟨g, (k + 1) * 8 + q * 8 + 2, none⟩ = some (.int .i64 n5) by simpa using hcax 2 _ rfl)
      have f3 := zaa (show wr.cell? ⟨g, (k + 1) * 8 + q * 8 + 3, none⟩ = some (.string t5) by simpa using hcax 3 _ rfl)
      have f4 := zaa (show wr.cell? ⟨g, (k + 1) * 8 + q * 8 + 4, none⟩ = some (.string ut5) by simpa using hcax 4 _ rfl)
      have f5 := zaa (show wr.cell? ⟨g, (k + 1) * 8 + q * 8 + 5, none⟩ = some (.string ui5) by simpa using hcax 5 _ rfl)
      have f6 := zaa (show wr.cell? ⟨g, (k + 1) * 8 + q * 8 + 6, none⟩ = some (.slice A6 l6 c6) by simpa using hcax 6 _ rfl)
      have f7 := zaa (show wr.cell? ⟨g, (k + 1) * 8 + q * 8 + 7, none⟩ = some (.slice A7 l7 c7) by simpa using hcax 7 _ rfl)
      have h0 := zaa (show wr.cell? ⟨g, (k + 1) * 8 + (q + 1) * 8, none⟩ = some (.int .i64 k6) by simpa using hcay 0 _ rfl)
      have h1 := zaa (show wr.cell? ⟨g, (k + 1) * 8 + (q + 1) * 8 + 1, none⟩ = some (.bool b6) by simpa using hcay 1 _ rfl)
      have h2 := zaa (show wr.cell? ⟨g, (k + 1) * 8 + (q + 1) * 8 + 2, none⟩ = some (.int .i64 n6) by simpa using hcay 2 _ rfl)
      have h3 := zaa (show wr.cell? ⟨g, (k + 1) * 8 + (q + 1) * 8 + 3, none⟩ = some (.string t6) by simpa using hcay 3 _ rfl)
      have h4 := zaa (show wr.cell? ⟨g, (k + 1) * 8 + (q + 1) * 8 + 4, none⟩ = some (.string ut6) by simpa using hcay 4 _ rfl)
      have h5 := zaa (show wr.cell? ⟨g, (k + 1) * 8 + (q + 1) * 8 + 5, none⟩ = some (.string ui6) by simpa using hcay 5 _ rfl)
      have h6 := zaa (show wr.cell? ⟨g, (k + 1) * 8 + (q + 1) * 8 + 6, none⟩ = some (.slice A8 l8 c8) by simpa using hcay 6 _ rfl)
      have h7 := zaa (show wr.cell? ⟨g, (k + 1) * 8 + (q + 1) * 8 + 7, none⟩ = some (.slice A9 l9 c9) by simpa using hcay 7 _ rfl)
      clear hx hy hcx hcy hxa hya hxa' hya' hcax hcay m1 m2 m3 m4 m5 hal Hsz
      have q1 : (0 : Int) ≤ (q : Int) + 1 := by omega
      have q2 : (q : Int) + 1 < ((l.length - (k + 1) : Nat) : Int) := by omega
      have q3 : ((q : Int) + 1).toNat = q + 1 := by omega
      have q4 : IntKind.i64.wrap ((q : Int) + 1 - 1) = (q : Int) := by rw [show (q : Int) + 1 - 1 = q by omega]; exact IntWalk.i64_in _ (by omega)
      have q5 : IntKind.i64.wrap (q : Int) = (q : Int) := IntWalk.i64_in _ (by omega)
      have q6 : (q : Int) < ((l.length - (k + 1) : Nat) : Int) := by omega
      have q7 : (0 : Int) ≤ (q : Int) := by omega
      have q8 : q < l.length - (k + 1) := by omega
      have q9 : q + 1 < l.length - (k + 1) := by omega
      clear elen
      go_wp2_with fail
      refine zae (by kernel_rfl) (by kernel_rfl) ?_
      repeat (quiet_step ((go_at_call 97; exact zan (fun w1 hw1 => same_ok y x S w1 [_, _, _, _, _, _, _, _] [_, _, _, _, _, _, _, _] (fun b hb => Nat.lt_of_lt_of_le (HSr.out b hb) hw1.size) (Hya.out.alike (Alike.of_ext hw1 HSr.out)) (Hxa.out.alike (Alike.of_ext hw1 HSr.out))) _ _)))
      refine wpQuiet_nil ?_
      intro w3 hw3
      have HX3 := q_ hw3
      clear hw3 f0 f1 f2 f3 f4 f5 f6 f7 h0 h1 h2 h3 h4 h5 h6 h7 q1 q2 q3 q4 q5 q6 q7
      have Hm3 := q_ ((HX3.out.block _ (zad Hm1.out)).trans Hm1.out)
      by_cases he : y.ord x = 0
      ·have e0 : (y.ord x == 0) = true := by simpa using he
       have He := q_ he
       clear he
       rw [e0]
       clear e0
       go_wp2_with fail
       have hfin : ∃ (kk' q' : Nat), k + 1 + q' + 1 ≤ l.length ∧ kk' ≤ k + 1 + q' ∧ Value.int .i64 (kk : Int) = .int .i64 (kk' : Int) ∧ Value.int .i64 ((q : Int) + 1 + 1) = .int .i64 ((q' + 1 : Nat) : Int) ∧ Hid (Mid S w g cap 46 l (k + 1) kk' q' w3) :=
        ⟨kk, q + 1, by omega, by omega, rfl, by go_num, (HM.out.old Hx.out Hy.out He.out).ext HX3.out⟩
       go_roundw
       case rel => exact hfin
       case measure => simp [intOf]; omega
      ·have e0 : (y.ord x == 0) = false := by simpa using he
       have He := q_ he
       clear he
       rw [e0]
       clear e0
       have hkl : kk < l.length := by omega
       have hkl' : (kk : Int) < l.length := by omega
       go_wp2_with (first | refine zac rfl 46 _ rfl g ((k + 1) * 8 + (q + 1) * 8) rfl zai zaf rfl (Hcy.out.alike (S := fun b => b < wr.heap.size) (zad Hm1.out) (Alike.of_ext HX3.out fun _ h => h)) ?_ | refine zah rfl 46 _ _ rfl g (kk * 8) rfl [.int .i64 k6, .bool b6, .int .i64 n6, .string t6, .string ut6, .string ui6, .slice A8 l8 c8, .slice A9 l9 c9] rfl zaf rfl 46 rows'.flatten.toArray Hm3.out (by have := HSz.out; simp only [List.length_cons, List.length_nil]; omega) Hya0.out.one ?_)
       have hfin : ∃ (kk' q' : Nat), k + 1 + q' + 1 ≤ l.length ∧ kk' ≤ k + 1 + q' ∧ Value.int .i64 ((kk : Int) + 1) = .int .i64 (kk' : Int) ∧ Value.int .i64 ((q : Int) + 1 + 1) = .int .i64 ((q' + 1 : Nat) : Int) ∧ Hid (Mid S w g cap 46 l (k + 1) kk' q' (w3.setRow g (rows'.flatten.toArray.toList.take (kk * 8) ++ ([.int .i64 k6, .bool b6, .int .i64 n6, .string t6, .string ut6, .string ui6, .slice A8 l8 c8, .slice A9 l9 c9] : List Value) ++ rows'.flatten.toArray.toList.drop (kk * 8 + 8)).toArray)) :=
        ⟨kk + 1, q + 1, by omega, by omega, by go_num, by go_num, (HM.out.ext HX3.out).new Hx.out Hy.out He.out Hm3.out Hya0.out (by omega)⟩
       go_roundw
       case rel =>
        simp only [List.append_assoc, List.cons_append, List.nil_append] at hfin
        exact hfin
       case measure => simp [intOf]; omega
     ·have hkl : kk < l.length := by omega
      have hkl' : (kk : Int) < l.length := by omega
      have hkc : kk < cap := by omega
      have hqe : k + 1 + q + 1 = l.length := by omega
      have q2 : ¬ (q : Int) + 1 < ((l.length - (k + 1) : Nat) : Int) := by omega
      have HQ := q_ hqe
      obtain ⟨rows', m1, m2, m3, _, _⟩ := HM.out.rows
      have Hsz : cap * 8 = rows'.flatten.toArray.size := by have := zcz m3; simp only [List.size_toArray]; omega
      have HSz := q_ Hsz
      have Hm1 := q_ m1
      clear m1 m2 m3 Hsz hqe elen
      go_wp2_with (refine zdx rfl (.tmp 61) 44 46 rfl Tryz.underlying44 zeroCells Tryz.zero27 zco g (kk * 8) (l.length - kk) (cap - kk) rfl (by omega) 46 rows'.flatten.toArray Hm1.out (by have := HSz.out; simp only [zeroCells, List.length_cons, List.length_nil]; omega) ?_)
      intro zs hzs
      have HZ := q_ hzs
      clear hzs
      go_wp2_with fail
      go_ret
      obtain ⟨xs', o1, o2, o3, o4⟩ := HM.out.finish (by rw [HQ.out]) hg (by omega) (by rw [zab]; exact hcm) Hgl.out (fun b hb => ⟨(HSm.out b hb).1, (HSm.out b hb).2.1, fun e => (HSm.out b hb).2.2 (by rw [e]; rfl)⟩) zs (by rw [HZ.out]; rfl) Hm1.out rfl
      simp only [List.append_assoc] at o1 o2 o3 o4
      exact ⟨_, rfl, xs', o1, o2, o3, o4⟩
   ·have e0 : (y.ord x == 0) = false := by simpa using he
    have He := q_ he
    clear he
    go_wp2_with fail
    go_roundw
    case rel => exact ⟨k + 1, by omega, by go_num, HX.out.trans HX2.out, fun i a b hi ha hb => by
     by_cases hik : i = k
     ·subst hik; rw [Hx.out] at ha; rw [Hy.out] at hb; cases ha; cases hb; exact He.out
     ·exact Hall.out i a b (by omega) ha hb⟩
    case measure => simp [intOf]; omega
  ·have hke : k + 1 = l.length := by omega
   have hd : zbo Val.ord l = l := by
    have := zcf (l := l) (c := Val.ord) (k := k) (by omega) Hall.out
    rwa [hke, List.take_length] at this
   have HD := q_ hd
   clear hke hd
   go_wp2_with fail
   go_ret
   rw [HD.out]
   refine ⟨_, rfl, xs, zam HOwn.out HX.out, ?_, HX.out.toBelow.mono (by have := hg; have := Hgl.out; omega), HX.out.drawn⟩
   exact (HF.out.alike (Alike.of_ext HX.out fun b hb => hb.2.1)).mono fun b hb => ⟨hb.1, Nat.lt_of_lt_of_le hb.2.1 HX.out.size, hb.2.2⟩
end Go.Proofs.YtbkaffhbhimglaaGreat

/-
  Kinds of things that lie in cells, and rows of them: read, made longer. No function of the program. The conditions: none (definitions and lemmas).
-/
namespace Go.Proofs.YtbkaffhbhimglaaGreat
open Go.RowKit
structure Rep (α : Type) where
 size : Nat
 pos : 0 < size
 At : (Nat → Prop) → World → α → List Value → Prop
 len : ∀ {S : Nat → Prop} {w : World} {x : α} {cs : List Value}, At S w x cs → cs.length = size
 one : ∀ {S : Nat → Prop} {w : World} {x : α} {cs : List Value}, At S w x cs → ∀ u ∈ cs, u.oneCell' = true
 alike : ∀ {S : Nat → Prop} {w w' : World} {x : α} {cs : List Value}, At S w x cs → Alike S w w' → At S w' x cs
 mono : ∀ {S S' : Nat → Prop} {w : World} {x : α} {cs : List Value}, At S w x cs → (∀ b, S b → S' b) → At S' w x cs
section
variable {α : Type} (R : Rep α)
def Rep.RowAt (S : Nat → Prop) (w : World) (l : List α) (b o : Nat) : Prop := ∀ (i : Nat) (x : α), l[i]? = some x → ∃ cs, CellsAt w b (o + i * R.size) cs ∧ R.At S w x cs
def Rep.RowsAt (S : Nat → Prop) (w : World) (l : List α) (v : Value) : Prop :=
 ∃ A cap, v = .slice A l.length cap ∧ (l.length ≤ LIM ∧ l.length ≤ cap ∧ cap ≤ maxLen) ∧ (0 < l.length → ∃ b o, A = some ⟨b, o, none⟩ ∧ S b ∧ R.RowAt S w l b o)
def Rep.Flat (S : Nat → Prop) (w : World) : List α → List Value → Prop
 | [], xs => xs = []
 | v :: r, xs => ∃ cs ys, xs = cs ++ ys ∧ R.At S w v cs ∧ Rep.Flat S w r ys
variable {R}
theorem Rep.RowAt.alike {S : Nat → Prop} {w w' : World} {l : List α} {b o : Nat} (h : R.RowAt S w l b o) (hb : S b) (k : Alike S w w') : R.RowAt S w' l b o := fun i x hx => by
 obtain ⟨cs, h1, h2⟩ := h i x hx
 exact ⟨cs, h1.alike hb k, R.alike h2 k⟩
theorem Rep.RowAt.mono {S S' : Nat → Prop} {w : World} {l : List α} {b o : Nat} (h : R.RowAt S w l b o) (k : ∀ b, S b → S' b) : R.RowAt S' w l b o := fun i x hx => by
 obtain ⟨cs, h1, h2⟩ := h i x hx
 exact ⟨cs, h1, R.mono h2 k⟩
theorem Rep.RowsAt.alike {S : Nat → Prop} {w w' : World} {l : List α} {v : Value} (h : R.RowsAt S w l v) (k : Alike S w w') : R.RowsAt S w' l v := by
 obtain ⟨A, cap, h1, h2, h3⟩ := h
 exact ⟨A, cap, h1, h2, fun hn => let ⟨b, o, e, hs, hr⟩ := h3 hn; ⟨b, o, e, hs, hr.alike hs k⟩⟩
theorem Rep.RowsAt.mono {S S' : Nat → Prop} {w : World} {l : List α} {v : Value} (h : R.RowsAt S w l v) (k : ∀ b, S b → S' b) : R.RowsAt S' w l v := by
 obtain ⟨A, cap, h1, h2, h3⟩ := h
 exact ⟨A, cap, h1, h2, fun hn => let ⟨b, o, e, hs, hr⟩ := h3 hn; ⟨b, o, e, k b hs, hr.mono k⟩⟩
theorem Rep.RowsAt.nil (S : Nat → Prop) (w : World) : R.RowsAt S w [] (.slice none 0 0) := ⟨none, 0, rfl, ⟨by simp, by simp, by simp⟩, by simp⟩
theorem Rep.RowsAt.one {S : Nat → Prop} {w : World} {l : List α} {v : Value} (h : R.RowsAt S w l v) : v.oneCell' = true := by
 obtain ⟨A, cap, rfl, _⟩ := h; rfl
theorem Rep.RowAt.take {S : Nat → Prop} {w : World} {l : List α} {b o : Nat} (h : R.RowAt S w l b o) (n : Nat) : R.RowAt S w (l.take n) b o := fun i x hx => by
 rw [List.getElem?_take] at hx
 split at hx
 ·exact h i x hx
 ·cases hx
theorem Rep.RowAt.drop {S : Nat → Prop} {w : World} {l : List α} {b o : Nat} (h : R.RowAt S w l b o) (n : Nat) : R.RowAt S w (l.drop n) b (o + n * R.size) := fun i x hx => by
 rw [List.getElem?_drop] at hx
 obtain ⟨cs, h1, h2⟩ := h _ x hx
 refine ⟨cs, ?_, h2⟩
 rw [show o + n * R.size + i * R.size = o + (n + i) * R.size by rw [Nat.add_mul]; omega]
 exact h1
theorem Rep.Flat.append {S : Nat → Prop} {w : World} : ∀ {l m : List α} {xs ys : List Value}, R.Flat S w l xs → R.Flat S w m ys → R.Flat S w (l ++ m) (xs ++ ys)
 | [], _, xs, ys, h, k => by simp only [Rep.Flat] at h; subst h; exact k
 | v :: r, m, xs, ys, ⟨c, zs, e, hv, hr⟩, k => ⟨c, zs ++ ys, by rw [e, List.append_assoc], hv, Rep.Flat.append hr k⟩
theorem Rep.Flat.single {S : Nat → Prop} {w : World} {x : α} {cs : List Value} (h : R.At S w x cs) : R.Flat S w [x] cs := ⟨cs, [], by simp, h, rfl⟩
theorem Rep.Flat.snoc {S : Nat → Prop} {w : World} {x : α} {cs : List Value} (hx : R.At S w x cs) {l : List α} {xs : List Value} (h : R.Flat S w l xs) : R.Flat S w (l ++ [x]) (xs ++ cs) := h.append (.single hx)
theorem Rep.Flat.alike {S : Nat → Prop} {w w' : World} (k : Alike S w w') : ∀ {l : List α} {xs : List Value}, R.Flat S w l xs → R.Flat S w' l xs
 | [], _, h => h
 | _ :: _, _, ⟨c, ys, e, hv, hr⟩ => ⟨c, ys, e, R.alike hv k, Rep.Flat.alike k hr⟩
theorem Rep.Flat.mono {S S' : Nat → Prop} {w : World} (k : ∀ b, S b → S' b) : ∀ {l : List α} {xs : List Value}, R.Flat S w l xs → R.Flat S' w l xs
 | [], _, h => h
 | _ :: _, _, ⟨c, ys, e, hv, hr⟩ => ⟨c, ys, e, R.mono hv k, Rep.Flat.mono k hr⟩
theorem Rep.Flat.length {S : Nat → Prop} {w : World} : ∀ {l : List α} {xs : List Value}, R.Flat S w l xs → xs.length = l.length * R.size
 | [], _, h => by simp only [Rep.Flat] at h; subst h; simp
 | _ :: r, _, ⟨c, ys, e, hv, hr⟩ => by
  subst e
  have := R.len hv
  have := Rep.Flat.length hr
  simp [Nat.succ_mul]; omega
theorem Rep.Flat.one {S : Nat → Prop} {w : World} : ∀ {l : List α} {xs : List Value}, R.Flat S w l xs → ∀ u ∈ xs, u.oneCell' = true
 | [], _, h => by simp only [Rep.Flat] at h; subst h; simp
 | _ :: r, _, ⟨c, ys, e, hv, hr⟩ => by
  subst e
  intro u hu
  rcases List.mem_append.1 hu with hu | hu
  ·exact R.one hv u hu
  ·exact Rep.Flat.one hr u hu
theorem Rep.Flat.get {S : Nat → Prop} {w : World} : ∀ {l : List α} {xs : List Value} {i : Nat} {x : α}, R.Flat S w l xs → l[i]? = some x → ∃ cs, R.At S w x cs ∧ ∀ j v, cs[j]? = some v → xs[i * R.size + j]? = some v
 | [], _, _, _, _, h => by simp at h
 | v :: r, _, 0, x, ⟨c, ys, e, hv, hr⟩, h => by
  simp at h; subst h; subst e
  refine ⟨c, hv, fun j u hj => ?_⟩
  rw [List.getElem?_append_left (by simpa using (List.getElem?_eq_some_iff.1 hj).1)]
  simpa using hj
 | v :: r, _, i + 1, x, ⟨c, ys, e, hv, hr⟩, h => by
  subst e
  obtain ⟨cs, h2, h3⟩ := Rep.Flat.get hr (i := i) (x := x) (by simpa using h)
  refine ⟨cs, h2, fun j u hj => ?_⟩
  have := R.len hv
  rw [Nat.succ_mul, List.getElem?_append_right (by omega), show i * R.size + R.size + j - c.length = i * R.size + j from by omega]
  exact h3 j u hj
theorem Rep.RowAt.flat {S : Nat → Prop} {w : World} : ∀ {l : List α} {b o : Nat}, R.RowAt S w l b o → ∃ xs, R.Flat S w l xs ∧ CellsAt w b o xs
 | [], _, _, _ => ⟨[], rfl, fun j v hj => by simp at hj⟩
 | x :: r, b, o, h => by
  obtain ⟨cs, h1, h2⟩ := h 0 x rfl
  obtain ⟨xs, h3, h4⟩ := Rep.RowAt.flat (l := r) (b := b) (o := o + R.size) fun i y hy => by
   obtain ⟨cs, h1, h2⟩ := h (i + 1) y (by simpa using hy)
   exact ⟨cs, by rw [show o + R.size + i * R.size = o + (i + 1) * R.size by rw [Nat.succ_mul]; omega]; exact h1, h2⟩
  refine ⟨cs ++ xs, ⟨cs, xs, rfl, h2, h3⟩, fun j v hj => ?_⟩
  have hl := R.len h2
  by_cases hc : j < cs.length
  ·rw [List.getElem?_append_left hc] at hj
   have := h1 j v hj
   simpa using this
  ·rw [List.getElem?_append_right (by omega)] at hj
   have := h4 _ v hj
   rw [show o + R.size + (j - cs.length) = o + j by omega] at this
   exact this
theorem Rep.Flat.row {S : Nat → Prop} {w : World} {l : List α} {xs : List Value} {b o : Nat} (h : R.Flat S w l xs) (hc : CellsAt w b o xs) : R.RowAt S w l b o := fun i x hx => by
 obtain ⟨cs, h1, h2⟩ := h.get hx
 exact ⟨cs, fun j v hj => by rw [Nat.add_assoc]; exact hc _ v (h2 j v hj), h1⟩
theorem own_cells {w : World} {base : Nat} {e : TypeId} {size n : Nat} {v : Value} {xs : List Value} (h : w.ownsRow base e size v n xs) (hn : 0 < n) : ∃ g cap, v = .slice (some ⟨g, 0, none⟩) n cap ∧ base ≤ g ∧ n ≤ cap ∧ cap ≤ maxLen ∧ CellsAt w g 0 xs := by
 obtain ⟨hx, hv⟩ := h
 rcases hv with ⟨rfl, hn0⟩ | ⟨g, cap, cur, rfl, hg, hh, hnc, hcm, hcur, htake⟩
 ·omega
 ·refine ⟨g, cap, rfl, hg, hnc, hcm, fun j u hj => ?_⟩
  rw [cell_of_row _ _ _ _ _ _ hh]
  rw [← htake, List.getElem?_take] at hj
  split at hj
  ·simpa using hj
  ·cases hj
theorem zd3 {S S' : Nat → Prop} {w : World} {base : Nat} {e : TypeId} {v : Value} {l : List α} {xs : List Value} (h : w.ownsRow base e R.size v l.length xs) (hf : R.Flat S w l xs) (hl : l.length ≤ LIM)
  (h1 : ∀ b, S b → S' b) (h2 : ∀ b, v.ownBlock = some b → S' b) : R.RowsAt S' w l v := by
 by_cases hn : 0 < l.length
 ·obtain ⟨g, cap, rfl, hg, hnc, hcm, hc⟩ := own_cells h hn
  exact ⟨_, cap, rfl, ⟨hl, hnc, hcm⟩, fun _ => ⟨g, 0, rfl, h2 g rfl, (hf.row hc).mono h1⟩⟩
 ·obtain ⟨hx, hv⟩ := h
  rcases hv with ⟨rfl, hn0⟩ | ⟨g, cap, cur, rfl, hg, hh, hnc, hcm, hcur, htake⟩
  ·exact ⟨none, 0, by rw [hn0], ⟨hl, by omega, by simp⟩, by omega⟩
  ·exact ⟨_, cap, rfl, ⟨hl, hnc, hcm⟩, by omega⟩
theorem Rep.flat_step {base : Nat} {wr w1 W2 w2 : World} {e : TypeId} {u v' : Value} {n c0 : Nat} {ys : List α} {xs cs : List Value} {y : α} (hown : wr.ownsRow base e R.size u n xs) (hf : R.Flat (Made base wr u) wr ys xs)
  (h1 : Ext wr w1) (h2 : Ext w1 W2) (hc0 : wr.heap.size ≤ c0) (hb : base ≤ wr.heap.size) (hy : R.At (Fresh c0 w1) w1 y cs) (hg : GrownBy W2 w2 u.ownBlock) (hv : v'.ownBlock = u.ownBlock ∨ v'.ownBlock = some W2.heap.size) :
  R.Flat (Made base w2 v') w2 (ys ++ [y]) (xs ++ cs) := by
 have hlt := hown.lt
 have s1 := h1.size
 have s2 := h2.size
 have s3 := hg.size
 refine Rep.Flat.snoc ?_ ?_
 ·refine R.mono (R.alike hy (w' := w2) fun b hbf => ?_) fun b hbf => ?_
  ·obtain ⟨hb1, hb2⟩ := hbf
   rw [hg.block b (by omega) (fun e => by have := hlt b e.symm; omega), h2.block b hb2]
  ·obtain ⟨hb1, hb2⟩ := hbf
   refine ⟨by omega, by omega, fun e => ?_⟩
   rcases hv with hv | hv
   ·have := hlt b (hv ▸ e); omega
   ·rw [hv] at e; injection e with e; omega
 ·refine (Rep.Flat.alike (w' := w2) (fun b hbf => ?_) hf).mono fun b hbf => ?_
  ·obtain ⟨hb1, hb2, hb3⟩ := hbf
   rw [hg.block b (by omega) (fun e => hb3 e.symm), h2.block b (by omega), h1.block b hb2]
  ·obtain ⟨hb1, hb2, hb3⟩ := hbf
   refine ⟨hb1, by omega, fun e => ?_⟩
   rcases hv with hv | hv
   ·exact hb3 (hv ▸ e)
   ·rw [hv] at e; injection e with e; omega
end
/-! ### the kinds -/
theorem Alike.mono {S S' : Nat → Prop} {w w' : World} (h : Alike S w w') (k : ∀ b, S' b → S b) : Alike S' w w' := fun b hb => h b (k b hb)
def valR : Rep Val where
 size := 8
 pos := by omega
 At S w x cs := Val.At S w x cs
 len h := h.length
 one h := h.one
 alike h k := h.alike k
 mono h k := h.mono k
def strR : Rep ByteArray where
 size := 1
 pos := by omega
 At _ _ x cs := cs = [.string x] ∧ x.size ≤ maxLen
 len h := by rw [h.1]; rfl
 one h := by rw [h.1]; simp [Value.oneCell']
 alike h _ := h
 mono h _ := h
theorem valsAt_iff {S : Nat → Prop} {w : World} {l : List Val} {v : Value} : ValsAt S w l v ↔ valR.RowsAt S w l v := by
 constructor
 ·rintro ⟨A, cap, h1, h2, h3⟩
  refine ⟨A, cap, h1, h2, fun hn => ?_⟩
  obtain ⟨b, o, e, hs, hr⟩ := h3 hn
  refine ⟨b, o, e, hs, fun i x hx => ?_⟩
  obtain ⟨cs, _, c2, c3⟩ := hr.get hx
  exact ⟨cs, c2, c3⟩
 ·rintro ⟨A, cap, h1, h2, h3⟩
  refine ⟨A, cap, h1, h2, fun hn => ?_⟩
  obtain ⟨b, o, e, hs, hr⟩ := h3 hn
  refine ⟨b, o, e, hs, Val.RowAt.mk fun i x hx => ?_⟩
  obtain ⟨cs, c2, c3⟩ := hr i x hx
  exact ⟨cs, c3.length, c2, c3⟩
theorem strs_row {S : Nat → Prop} {w : World} {b o : Nat} : ∀ {l : List ByteArray}, strR.RowAt S w l b o ↔ CellsAt w b o (l.map Value.string) ∧ ∀ s ∈ l, s.size ≤ maxLen := by
 intro l
 constructor
 ·intro h
  refine ⟨fun j v hj => ?_, fun s hs => ?_⟩
  ·rw [List.getElem?_map] at hj
   obtain ⟨s, hs, rfl⟩ := Option.map_eq_some_iff.1 hj
   obtain ⟨cs, h1, rfl, _⟩ := h j s hs
   have := h1 0 _ rfl
   simpa [strR] using this
  ·obtain ⟨i, hi⟩ := List.mem_iff_getElem?.1 hs
   obtain ⟨cs, _, _, h2⟩ := h i s hi
   exact h2
 ·rintro ⟨h1, h2⟩ i s hs
  refine ⟨[.string s], fun j v hj => ?_, rfl, h2 s (List.mem_of_getElem? hs)⟩
  cases j with
  | zero =>
   simp at hj; subst hj
   have := h1 i (.string s) (by simp [hs])
   simpa [strR] using this
  | succ j => simp at hj
theorem zdl {S : Nat → Prop} {w : World} {l : List ByteArray} {v : Value} (h : StrsAt S w l v) : strR.RowsAt S w l v := by
 obtain ⟨A, cap, h1, h0, h2, h3, h4, h5⟩ := h
 exact ⟨A, cap, h1, ⟨h0, h2, h3⟩, fun hn => let ⟨b, o, e, hs, hc⟩ := h5 hn; ⟨b, o, e, hs, strs_row.2 ⟨hc, h4⟩⟩⟩
theorem zds {S : Nat → Prop} {w : World} {l : List ByteArray} {v : Value} (h : strR.RowsAt S w l v) : StrsAt S w l v := by
 obtain ⟨A, cap, h1, ⟨h0, h2, h3⟩, h4⟩ := h
 refine ⟨A, cap, h1, h0, h2, h3, fun s hs => ?_, fun hn => ?_⟩
 ·have hn : 0 < l.length := List.length_pos_of_mem hs
  obtain ⟨b, o, e, hb, hr⟩ := h4 hn
  exact (strs_row.1 hr).2 s hs
 ·obtain ⟨b, o, e, hb, hr⟩ := h4 hn
  exact ⟨b, o, e, hb, (strs_row.1 hr).1⟩
end Go.Proofs.YtbkaffhbhimglaaGreat

/-
  Words for the walks of laws: a struct in a box of the call's own, a value that lies in what is there. The conditions: none (definitions and lemmas).
-/
namespace Go.Proofs.YtbkaffhbhimglaaGreat
open Go.RowKit
def BoxAt (W : World) (g : Nat) (cs : List Value) : Prop := g < W.heap.size ∧ CellsAt W g 0 cs
theorem BoxAt.ext {W W' : World} {g : Nat} {cs : List Value} (h : BoxAt W g cs) (k : Ext W W') : BoxAt W' g cs := ⟨Nat.lt_of_lt_of_le h.1 k.size, h.2.alike (S := fun b => b < W.heap.size) h.1 (Alike.of_ext k fun _ h => h)⟩
theorem BoxAt.new (W : World) (T : TypeId) (cs : List Value) : BoxAt (W.alloc (.cells cs.toArray T)) W.heap.size cs := ⟨by simp, zap T cs rfl⟩
theorem BoxAt.cells {W : World} {g : Nat} {v0 v1 v2 v3 v4 v5 v6 v7 : Value} (h : BoxAt W g [v0, v1, v2, v3, v4, v5, v6, v7]) : W.cell? ⟨g, 0, none⟩ = some v0 ∧ W.cell? ⟨g, 1, none⟩ = some v1 ∧ W.cell? ⟨g, 2, none⟩ = some v2 ∧ W.cell? ⟨g, 3, none⟩ = some v3 ∧
  W.cell? ⟨g, 4, none⟩ = some v4 ∧ W.cell? ⟨g, 5, none⟩ = some v5 ∧ W.cell? ⟨g, 6, none⟩ = some v6 ∧ W.cell? ⟨g, 7, none⟩ = some v7 :=
 ⟨h.2 0 _ rfl, by simpa using h.2 1 _ rfl, by simpa using h.2 2 _ rfl, by simpa using h.2 3 _ rfl, by simpa using h.2 4 _ rfl, by simpa using h.2 5 _ rfl, by simpa using h.2 6 _ rfl, by simpa using h.2 7 _ rfl⟩
def InW (W : World) (v : Val) (cs : List Value) : Prop := Val.At (fun b => b < W.heap.size) W v cs
theorem InW.ext {W W' : World} {v : Val} {cs : List Value} (h : InW W v cs) (k : Ext W W') : InW W' v cs := (Val.At.alike (Alike.of_ext k fun _ h => h) v cs h).mono fun _ hb => Nat.lt_of_lt_of_le hb k.size
theorem InW.lt (W : World) : ∀ b, (fun b => b < W.heap.size) b → b < W.heap.size := fun _ h => h
end Go.Proofs.YtbkaffhbhimglaaGreat

/-
  Entities in memory; the order of names; where names stand first. The conditions: the arguments lie in memory as they should.
-/
namespace Go.Proofs.YtbkaffhbhimglaaGreat
open Go.RowKit
open Lib renaming hid → q_
set_option maxRecDepth 100000
def uidR : Rep Uid where
 size := 2
 pos := by omega
 At _ _ x cs := cs = [.string x.1, .string x.2] ∧ FitU x
 len h := by rw [h.1]; rfl
 one h := by rw [h.1]; simp [Value.oneCell']
 alike h _ := h
 mono h _ := h
def entR : Rep Ent where
 size := 11
 pos := by omega
 At S w e cs := ∃ pv acs, cs = .string e.uid.1 :: .string e.uid.2 :: pv :: acs ∧ FitU e.uid ∧ uidR.RowsAt S w e.ps pv ∧ Val.At S w e.av acs
 len h := by
  obtain ⟨pv, acs, rfl, _, _, h⟩ := h
  simp [h.length]
 one h := by
  obtain ⟨pv, acs, rfl, _, h1, h⟩ := h
  intro u hu
  simp only [List.mem_cons] at hu
  rcases hu with rfl | rfl | rfl | hu
  ·rfl
  ·rfl
  ·exact h1.one
  ·exact h.one u hu
 alike h k := by
  obtain ⟨pv, acs, rfl, h0, h1, h2⟩ := h
  exact ⟨pv, acs, rfl, h0, h1.alike k, h2.alike k⟩
 mono h k := by
  obtain ⟨pv, acs, rfl, h0, h1, h2⟩ := h
  exact ⟨pv, acs, rfl, h0, h1.mono k, h2.mono k⟩
theorem zdj {S : Nat → Prop} {w : World} {e : Ent} {cs : List Value} (h : entR.At S w e cs) : ∃ A l c k b n t ut ui A1 l1 c1 A2 l2 c2,
  cs = [.string e.uid.1, .string e.uid.2, .slice A l c, .int .i64 k, .bool b, .int .i64 n, .string t, .string ut, .string ui, .slice A1 l1 c1, .slice A2 l2 c2] := by
 obtain ⟨pv, acs, rfl, _, ⟨A, cap, rfl, _⟩, h⟩ := h
 obtain ⟨k, b, n, t, ut, ui, A1, l1, c1, A2, l2, c2, rfl⟩ := h.shape
 exact ⟨_, _, _, _, _, _, _, _, _, _, _, _, _, _, _, rfl⟩
theorem za0 : ∀ w, (isAgg 49).run Tryz.prog w = .ok true w := fun _ => by kernel_rfl
theorem zau : ∀ w, (Go.sizeOf 49).run Tryz.prog w = .ok 11 w := fun _ => by kernel_rfl
theorem zb8 : ∀ w, (isAgg 43).run Tryz.prog w = .ok true w := fun _ => by kernel_rfl
theorem zbk : ∀ w, (Go.sizeOf 43).run Tryz.prog w = .ok 2 w := fun _ => by kernel_rfl
theorem orderU_ok (a b : Uid) (w : World) : Calls Tryz.prog 52 #[valU a, valU b] w fun e w' => e = .returned (.int .i64 (ordU a b)) ∧ Ext w w' := by
 obtain ⟨t1, i1⟩ := a
 obtain ⟨t2, i2⟩ := b
 unfold valU ordU
 go_enter Tryz.func52, Tryz.ntmps52
 go_wp2
 obtain ⟨w1, hw1⟩ : ∃ w1, w1 = (w.alloc (.cells #[.string t1, .string i1] 43)).alloc (.cells #[.string t2, .string i2] 43) := ⟨_, rfl⟩
 rw [← hw1]
 have c0 := zaa (show w1.cell? ⟨w.heap.size, 0, none⟩ = some (.string t1) by rw [hw1]; go_simp)
 have c1 := zaa (show w1.cell? ⟨w.heap.size, 1, none⟩ = some (.string i1) by rw [hw1]; go_simp)
 have c2 := zaa (show w1.cell? ⟨w.heap.size + 1, 0, none⟩ = some (.string t2) by rw [hw1]; go_simp)
 have c3 := zaa (show w1.cell? ⟨w.heap.size + 1, 1, none⟩ = some (.string i2) by rw [hw1]; go_simp)
 have hx : Ext w w1 := by rw [hw1]; exact ((Ext.refl w).alloc _).alloc _
 have HX := q_ hx
 clear hw1 hx
 refine zcx 10 (by kernel_rfl) (by kernel_rfl) ?_
 simp only [List.take_succ_cons, List.take_zero, List.drop_succ_cons, List.drop_zero]
 repeat (quiet_step (first | exact later_same (zcb _ _) _ _))
 refine wpQuiet_nil ?_
 intro w2 hw2
 have HX2 := q_ hw2
 clear hw2 c0 c1 c2 c3
 go_wp2_with (go_at_call 81; refine (or_two (cmpS t1 t2) (cmpS i1 i2) _ _ (by go_simp) (by go_simp)).mono ?_; rintro e w' ⟨rfl, rfl⟩)
 go_ret
 exact ⟨rfl, (HX.out.trans HX2.out).alloc _⟩
theorem Tryz.enterOrdU : ∀ args w, (callFunc 52 args).run Tryz.prog w = .ok (.enter 52 args) w := fun _ _ => by kernel_rfl
theorem idx_take_succ {us : List Uid} {k : Nat} {u y : Uid} (hu : us[k]? = some u) : idx (us.take (k + 1)) y = if (idx (us.take k) y).isSome then idx (us.take k) y else if y = u then some k else none := by
 obtain ⟨hk, rfl⟩ := List.getElem?_eq_some_iff.1 hu
 rw [List.take_succ_eq_append_getElem hk]
 have key : ∀ (l : List Uid) (u y : Uid), idx (l ++ [u]) y = if (idx l y).isSome then idx l y else if y = u then some l.length else none := by
  intro l u y
  induction l with
  | nil => by_cases h : u = y <;> simp [idx, h, eq_comm]
  | cons x r ih =>
   by_cases h : x = y
   ·simp [idx, h]
   ·simp only [List.cons_append, idx, h, if_false, ih]
    cases hi : idx r y with
    | none => by_cases h2 : y = u <;> simp [h2]
    | some i => simp
 rw [key]
 simp [Nat.min_eq_left (Nat.le_of_lt hk)]
def dis (us : List Uid) : Nat → Nat
 | 0 => 0
 | k + 1 => dis us k + match us[k]? with
  | some u => if (idx (us.take k) u).isSome then 0 else 1
  | none => 0
theorem dis_succ {us : List Uid} {k : Nat} {u : Uid} (h : us[k]? = some u) : dis us (k + 1) = dis us k + if (idx (us.take k) u).isSome then 0 else 1 := by simp [dis, h]
theorem dis_le (us : List Uid) : ∀ k, dis us k ≤ k
 | 0 => Nat.le_refl _
 | k + 1 => by
  have := dis_le us k
  simp only [dis]
  split
  ·split <;> omega
  ·omega
theorem dis_full (us : List Uid) : ∀ k, k ≤ us.length → (dis us k = k ↔ (us.take k).Nodup)
 | 0, _ => by simp [dis]
 | k + 1, h => by
  have hk : us[k]? = some us[k] := List.getElem?_eq_getElem (by omega)
  have ih := dis_full us k (by omega)
  have hle := dis_le us k
  rw [dis_succ hk, List.take_succ_eq_append_getElem (by omega)]
  have hn : (us.take k ++ [us[k]]).Nodup ↔ (us.take k).Nodup ∧ us[k] ∉ us.take k := by
   rw [(List.perm_append_singleton us[k] (us.take k)).nodup_iff, List.nodup_cons]
   exact And.comm
  rw [hn, ← ih, ← idx_none]
  cases hi : idx (us.take k) us[k] with
  | none => simp
  | some i => simp; omega
theorem dis_nodup {us : List Uid} (h : us.Nodup) : dis us us.length = us.length := (dis_full us _ (Nat.le_refl _)).2 (by rw [List.take_length]; exact h)
theorem nodup_of_dis {us : List Uid} (h : ¬ dis us us.length < us.length) : us.Nodup := by
 have h1 := dis_le us us.length
 have := (dis_full us _ (Nat.le_refl _)).1 (by omega)
 rwa [List.take_length] at this
end Go.Proofs.YtbkaffhbhimglaaGreat

/-
  A statement whose order Go leaves open and whose operations make or write memory: each operation is shown by itself, from what those before it leave; then a tail in a forced order. The conditions: none (lemmas on the model).
-/
namespace Go.Proofs.YtbkaffhbhimglaaGreat
open Go.RowKit
def zaw : Act → List Oper → List Value → Act
 | a, o :: r, x :: s => zaw (a.put o.dst x) r s
 | a, _, _ => a
def zcc : List Oper → Bool
 | [] => true
 | o :: r => (match o.dst with | none => true | some d => r.all fun p => p.dst != some d) && zcc r
theorem putAll_put {o : Oper} {v : Value} : ∀ (l : List Oper) (xs : List Value) (a : Act), (∀ d, o.dst = some d → ∀ p ∈ l, p.dst ≠ some d) → zaw (a.put o.dst v) l xs = (zaw a l xs).put o.dst v
 | [], _, _, _ => by simp [zaw]
 | p :: r, [], _, _ => by simp [zaw]
 | p :: r, x :: s, a, h => by
  simp only [zaw]
  rw [Act.put_comm a v x fun d hd => h d hd p (by simp), putAll_put r s _ fun d hd q hq => h d hd q (by simp [hq])]
theorem Act.put_put (a : Act) (d : Option Tmp) (u v : Value) : (a.put d u).put d v = a.put d v := by
 cases d <;> simp [Act.put]
theorem putAll_set {v : Value} : ∀ (l : List Oper) (xs : List Value) (a : Act) (i : Nat) (o : Oper), zcc l = true → l[i]? = some o → xs.length = l.length → (zaw a l xs).put o.dst v = zaw a l (xs.set i v)
 | [], _, _, i, _, _, h, _ => by simp at h
 | p :: r, [], _, i, _, _, _, h => by simp at h
 | p :: r, x :: s, a, 0, o, hd, h, hl => by
  simp at h; subst h
  simp only [zcc, Bool.and_eq_true] at hd
  simp only [zaw, List.set_cons_zero]
  rw [← putAll_put r s _ fun d hdd q hq => ?_, Act.put_put]
  rw [hdd] at hd
  simpa using List.all_eq_true.1 hd.1 q hq
 | p :: r, x :: s, a, i + 1, o, hd, h, hl => by
  simp only [zcc, Bool.and_eq_true] at hd
  simp only [zaw, List.set_cons_succ]
  exact putAll_set r s _ i o hd.2 (by simpa using h) (by simpa using hl)
def slotsOf (a : Act) (l : List Oper) : List Value := l.map fun o => match o.dst with | some d => a.tmps.getD d undef | none => undef
theorem Act.put_self (a : Act) (d : Tmp) : a.put (some d) (a.tmps.getD d undef) = a := by
 cases a with
 | mk t df =>
  simp only [Act.put]
  congr 1
  apply Array.ext_getElem?
  intro i
  rw [Array.getElem?_setIfInBounds]
  split
  ·rename_i h; subst h
   split
   ·rename_i h; simp [h]
   ·rename_i h; simp [h]
  ·rfl
theorem putAll_slots (a : Act) : ∀ l : List Oper, zaw a l (slotsOf a l) = a
 | [] => rfl
 | o :: r => by
  simp only [slotsOf, List.map_cons, zaw]
  have : a.put o.dst (match o.dst with | some d => a.tmps.getD d undef | none => undef) = a := by
   cases hd : o.dst with
   | none => rfl
   | some d => exact Act.put_self a d
  rw [this]
  exact putAll_slots a r
def zbf (l : List Oper) (i j : Nat) : Bool := match l[i]? with
 | some o => o.after.any fun e => Region.binds .any e && e.on == j
 | none => false
def zdc (n m : Nat) : Array Bool := (List.replicate n true ++ List.replicate (m - n) false).toArray
def monoB (l : List Oper) (n : Nat) : Bool :=
 decide (n ≤ l.length) && zcc (l.take n) && (l.take n).zipIdx.all (fun (o, i) => o.after.all fun e => !Region.binds .any e || decide (e.on < i)) &&
 (decide (n = l.length) || (decide (n < l.length) && Region.sinkB .any l.toArray n && Region.chainB .any l.toArray n)) && Region.seqB .any l.toArray (l.length - n) n (zdc n l.length)
section
variable {P : Program} {l : List Oper} {n : Nat} {a0 : Act} {Inv : World → Prop} {T : Nat → World → World → Prop} {Pre : Nat → World → Prop} {Φ : Nat → Value → World → Prop}
def StepOK (P : Program) (l : List Oper) (n : Nat) (a0 : Act) (Inv : World → Prop) (T : Nat → World → World → Prop) (Pre : Nat → World → Prop) (Φ : Nat → Value → World → Prop) (i : Nat) (o : Oper) : Prop :=
 ∀ (xs : List Value) (w : World), xs.length = n → Inv w → Pre i w → (∀ j, j < n → zbf l i j = true → Φ j (xs.getD j undef) w) →
  ∀ (Q : Exit → Act → World → Prop) (K : Act → World → Prop), (∀ v w', Φ i v w' → T i w w' → Inv w' → K ((zaw a0 (l.take n) xs).put o.dst v) w') →
   if Region.wanted o (yielded l.toArray (zaw a0 (l.take n) xs).tmps) then o.wp P (zaw a0 (l.take n) xs) w K Q else K ((zaw a0 (l.take n) xs).put o.dst undef) w
def zdb (n : Nat) (listed : Array Bool) : Nat := (List.range n).countP fun i => !listed.getD i true
theorem unlisted_set {n i : Nat} {listed : Array Bool} (hi : i < n) (h : listed.getD i true = false) : zdb n listed = zdb n (listed.setIfInBounds i true) + 1 := by
 have hlt : i < listed.size := by
  rcases Nat.lt_or_ge i listed.size with h' | h'
  ·exact h'
  ·rw [Array.getD_eq_getD_getElem?, Array.getElem?_eq_none h'] at h; simp at h
 have key : ∀ m, (List.range m).countP (fun j => !listed.getD j true) = (List.range m).countP (fun j => !(listed.setIfInBounds i true).getD j true) + if i < m then 1 else 0 := by
  intro m
  induction m with
  | zero => simp
  | succ m ih =>
   rw [List.range_succ, List.countP_append, List.countP_append, ih]
   by_cases hm : m = i
   ·subst hm
    have h2 : (listed.setIfInBounds m true).getD m true = true := by simp [hlt]
    simp only [List.countP_singleton, h, h2]
    simp
   ·rw [show List.countP (fun j => !listed.getD j true) [m] = List.countP (fun j => !(listed.setIfInBounds i true).getD j true) [m] by
     simp only [List.countP_singleton, getD_set_ne true (Ne.symm hm)]]
    by_cases hmi : i < m
    ·rw [if_pos hmi, if_pos (by omega)]; omega
    ·rw [if_neg hmi, if_neg (by omega)]; omega
 have := key n
 rw [if_pos hi] at this
 exact this
theorem mono_any (hB : monoB l n = true)
  (hstep : ∀ i o, i < n → l[i]? = some o → StepOK P l n a0 Inv T Pre Φ i o)
  (hpre : ∀ i j w w', i < n → j < n → i ≠ j → zbf l j i = false → Inv w → T j w w' → Pre i w → Pre i w')
  (hphi : ∀ i j v w w', i < n → j < n → i ≠ j → zbf l i j = false → Inv w → T j w w' → Φ i v w → Φ i v w')
  (hun : ∀ i o xs w, i < n → l[i]? = some o → xs.length = n → Region.wanted o (yielded l.toArray (zaw a0 (l.take n) xs).tmps) = false → Inv w → Pre i w → (∀ j, j < n → zbf l i j = true → Φ j (xs.getD j undef) w) → Φ i undef w ∧ T i w w)
  {Q : Exit → Act → World → Prop}
  (hQ : ∀ xs w, xs.length = n → Inv w → (∀ i, i < n → Φ i (xs.getD i undef) w) → wpList P l.toArray Q (l.drop n) (zaw a0 (l.take n) xs) w) :
  ∀ (k : Nat) (listed : Array Bool) (xs : List Value) (w : World), zdb n listed = k → HeadInv .any l.toArray n listed → xs.length = n → Inv w →
   (∀ i, i < n → listed.getD i true = true → Φ i (xs.getD i undef) w) → (∀ i, i < n → listed.getD i true = false → Pre i w) →
   wpAny P .any l.toArray Q (k + (l.length - n)) listed (zaw a0 (l.take n) xs) w := by
 simp only [monoB, Bool.and_eq_true, Bool.or_eq_true, decide_eq_true_eq] at hB
 obtain ⟨⟨⟨⟨hn, hd⟩, hac⟩, htail⟩, hseq⟩ := hB
 intro k
 induction k with
 | zero =>
  intro listed xs w hk inv hl hI hdone _
  have hall : ∀ i, i < n → listed.getD i true = true := fun i hi => by
   have h0 := List.countP_eq_zero.1 hk i (by simpa using hi)
   simpa using h0
  have hls : listed.size = l.length := by simpa using inv.size
  have he : listed = zdc n l.length := by
   apply Array.ext_getElem?
   intro i
   by_cases hi : i < n
   ·have h1 := hall i hi
    have h2 : i < listed.size := by omega
    rw [Array.getD_eq_getD_getElem?, Array.getElem?_eq_getElem h2] at h1
    rw [Array.getElem?_eq_getElem h2]
    simp only [Option.getD_some] at h1
    simp only [zdc, h1, List.getElem?_toArray]
    rw [List.getElem?_append_left (by simpa using hi), List.getElem?_replicate, if_pos hi]
   ·by_cases hi2 : i < l.length
    ·have h1 := inv.tail i (by omega) (by simpa using hi2)
     have h2 : i < listed.size := by omega
     rw [Array.getD_eq_getD_getElem?, Array.getElem?_eq_getElem h2] at h1
     rw [Array.getElem?_eq_getElem h2]
     simp only [Option.getD_some] at h1
     simp only [zdc, h1]
     rw [List.getElem?_toArray, List.getElem?_append_right (by simpa using Nat.le_of_not_lt hi), List.getElem?_replicate]
     rw [if_pos (by simp; omega)]
    ·rw [Array.getElem?_eq_none (by omega)]
     rw [Array.getElem?_eq_none (by simp [zdc]; omega)]
  have hw := hQ xs w hl hI fun i hi => hdone i hi (hall i hi)
  rw [Nat.zero_add]
  have := wpAny_of_seq (md := .any) (Q' := Q) (l.drop n) n listed (zaw a0 (l.take n) xs) w (fun j => by simp [List.getElem?_drop]) (by rw [he]; simpa using hseq) hw
  simpa using this
 | succ k ih =>
  intro listed xs w hk inv hl hI hdone hpr
  have hls : listed.size = l.length := by simpa using inv.size
  -- some one is still to come
  obtain ⟨i0, hi0, hu0⟩ : ∃ i, i < n ∧ listed.getD i true = false := by
   have h0 : 0 < (List.range n).countP fun i => !listed.getD i true := by unfold zdb at hk; omega
   obtain ⟨i, hi, hp⟩ := List.countP_pos_iff.1 h0
   exact ⟨i, by simpa using hi, by simpa using hp⟩
  have hready : Region.ready .any l.toArray listed ≠ [] := by
   -- the least one
   have hmin : ∀ m i, i < m → i < n → listed.getD i true = false → ∃ j, j ∈ Region.ready .any l.toArray listed := by
    intro m
    induction m with
    | zero => intro i h; omega
    | succ m ihm =>
     intro i him hin hiu
     by_cases hex : ∃ j, j < i ∧ listed.getD j true = false
     ·obtain ⟨j, hj, hju⟩ := hex
      exact ihm j (by omega) (by omega) hju
     ·refine ⟨i, mem_ready.2 ⟨hiu, l[i]'(by omega), by simp, fun e he hb => ?_⟩⟩
      have h1 := List.all_eq_true.1 hac (l[i]'(by omega), i) (List.mem_zipIdx_iff_getElem?.2 (by rw [List.getElem?_take, if_pos hin]; exact List.getElem?_eq_getElem _))
      have h2 := Array.all_eq_true'.1 h1 e he
      simp only [hb, Bool.not_true, Bool.false_or, decide_eq_true_eq] at h2
      have h3 : listed.getD e.on true = true := by
       cases h : listed.getD e.on true with
       | true => rfl
       | false => exact absurd ⟨e.on, h2, h⟩ hex
      have h4 : e.on < listed.size := by omega
      rw [Array.getD_eq_getD_getElem?, Array.getElem?_eq_getElem h4] at h3 ⊢
      simpa using h3
   obtain ⟨j, hj⟩ := hmin (i0 + 1) i0 (by omega) hi0 hu0
   intro h; rw [h] at hj; cases hj
  rw [show k + 1 + (l.length - n) = (k + (l.length - n)) + 1 by omega]
  refine ⟨fun h => absurd h hready, fun i hi => ?_⟩
  obtain ⟨hiu, o, ho, hall⟩ := mem_ready.1 hi
  have hin : i < n := by
   rcases htail with h | ⟨⟨hnl, hs⟩, hc⟩
   ·have := (Array.getElem?_eq_some_iff.1 ho).1
    simp at this; omega
   ·rcases Nat.lt_or_ge i n with h | h
    ·exact h
    ·exact absurd hi (tail_waits hs hc (by simpa using hnl) inv _ i0 rfl hi0 hu0 i h)
  have ho' : l[i]? = some o := by simpa using ho
  have hfacts : ∀ j, j < n → zbf l i j = true → Φ j (xs.getD j undef) w := fun j hj hwt => by
   unfold zbf at hwt
   rw [ho'] at hwt
   obtain ⟨e, he, hbe⟩ := Array.any_eq_true'.1 hwt
   simp only [Bool.and_eq_true, beq_iff_eq] at hbe
   have h1 := hall e he hbe.1
   rw [hbe.2] at h1
   refine hdone j hj ?_
   have h4 : j < listed.size := by omega
   rw [Array.getD_eq_getD_getElem?, Array.getElem?_eq_getElem h4] at h1 ⊢
   simpa using h1
  have hnext : ∀ v w', Φ i v w' → T i w w' → Inv w' → wpAny P .any l.toArray Q (k + (l.length - n)) (listed.setIfInBounds i true) ((zaw a0 (l.take n) xs).put o.dst v) w' := by
   intro v w' hv ht hI'
   rw [putAll_set (l.take n) xs a0 i o hd (by rw [List.getElem?_take, if_pos hin]; exact ho') (by simp; omega)]
   have hi2 : i < listed.size := by omega
   refine ih _ (xs.set i v) w' (by have := unlisted_set hin hiu; omega) (inv.set hi hin) (by simpa using hl) hI' (fun j hj hjl => ?_) (fun j hj hju => ?_)
   ·by_cases hji : j = i
    ·subst hji
     rw [List.getD_eq_getElem?_getD, List.getElem?_set_self (by omega)]
     exact hv
    ·rw [getD_set_ne true (Ne.symm hji)] at hjl
     rw [List.getD_eq_getElem?_getD, List.getElem?_set_ne (Ne.symm hji), ← List.getD_eq_getElem?_getD]
     refine hphi j i _ w w' hj hin hji ?_ hI ht (hdone j hj hjl)
     -- i is zdb, so j didn't wait for it
     cases hw : zbf l j i with
     | false => rfl
     | true =>
      exfalso
      unfold zbf at hw
      have hjlt : j < l.length := by omega
      rw [List.getElem?_eq_getElem hjlt] at hw
      obtain ⟨e, he, hbe⟩ := Array.any_eq_true'.1 hw
      simp only [Bool.and_eq_true, beq_iff_eq] at hbe
      have h1 := inv.closed j l[j] (by simp [hjlt]) (by
       have h4 : j < listed.size := by omega
       rw [Array.getD_eq_getD_getElem?, Array.getElem?_eq_getElem h4] at hjl ⊢
       simpa using hjl) e he hbe.1
      rw [hbe.2] at h1
      have h4 : i < listed.size := by omega
      rw [Array.getD_eq_getD_getElem?, Array.getElem?_eq_getElem h4] at h1 hiu
      simp at h1 hiu
      rw [h1] at hiu; cases hiu
   ·by_cases hji : j = i
    ·subst hji
     have : (listed.setIfInBounds j true).getD j true = true := by simp [hi2]
     rw [this] at hju; cases hju
    ·rw [getD_set_ne true (Ne.symm hji)] at hju
     refine hpre j i w w' hj hin hji ?_ hI ht (hpr j hj hju)
     cases hw : zbf l i j with
     | false => rfl
     | true =>
      exfalso
      unfold zbf at hw
      rw [ho'] at hw
      obtain ⟨e, he, hbe⟩ := Array.any_eq_true'.1 hw
      simp only [Bool.and_eq_true, beq_iff_eq] at hbe
      have h1 := hall e he hbe.1
      rw [hbe.2] at h1
      have h4 : j < listed.size := by omega
      rw [Array.getD_eq_getD_getElem?, Array.getElem?_eq_getElem h4] at h1 hju
      simp at h1 hju
      rw [h1] at hju; cases hju
  have hs := hstep i o hin ho' xs w hl hI (hpr i hin hiu) hfacts Q (wpAny P .any l.toArray Q (k + (l.length - n)) (listed.setIfInBounds i true)) hnext
  unfold wpOp
  simp only [ho]
  split
  ·rename_i hw; rw [if_pos hw] at hs; exact .inl hs
  ·rename_i hw
   obtain ⟨h1, h2⟩ := hun i o xs w hin ho' hl (by simpa using hw) hI (hpr i hin hiu) hfacts
   exact hnext undef w h1 h2 hI
theorem region_mono {id : Nat} {Q : Exit → Act → World → Prop} {w : World} (n : Nat) (Inv : World → Prop) (T : Nat → World → World → Prop) (Pre : Nat → World → Prop) (Φ : Nat → Value → World → Prop)
  (hm : P.follows .mixedOrders = true) (hB : monoB l n = true) (hI : Inv w.drew) (hP : ∀ i, i < n → Pre i w.drew)
  (hstep : ∀ i o, i < n → l[i]? = some o → StepOK P l n a0 Inv T Pre Φ i o)
  (hpre : ∀ i j w w', i < n → j < n → i ≠ j → zbf l j i = false → Inv w → T j w w' → Pre i w → Pre i w')
  (hphi : ∀ i j v w w', i < n → j < n → i ≠ j → zbf l i j = false → Inv w → T j w w' → Φ i v w → Φ i v w')
  (hun : ∀ i o xs w, i < n → l[i]? = some o → xs.length = n → Region.wanted o (yielded l.toArray (zaw a0 (l.take n) xs).tmps) = false → Inv w → Pre i w → (∀ j, j < n → zbf l i j = true → Φ j (xs.getD j undef) w) → Φ i undef w ∧ T i w w)
  (hQ : ∀ xs w, xs.length = n → Inv w → (∀ i, i < n → Φ i (xs.getD i undef) w) → wpList P l.toArray Q (l.drop n) (zaw a0 (l.take n) xs) w) : (Code.region id l.toArray true).wp P Q a0 w := by
 refine wp_region_any hm ?_
 have hn : n ≤ l.length := by
  simp only [monoB, Bool.and_eq_true, decide_eq_true_eq] at hB
  exact hB.1.1.1.1
 have h := mono_any (Q := Q) hB hstep hpre hphi hun hQ n (Array.replicate l.toArray.size false) (slotsOf a0 (l.take n)) w.drew (by
   unfold zdb
   rw [List.countP_eq_length.2 (by
    intro i hi
    have hi' : i < n := by simpa using hi
    have : i < l.length := by omega
    simp [this])]
   simp) ⟨by simp, fun j oj _ hl => (by rw [getD_replicate_false] at hl; cases hl), fun t _ ht => getD_in (by simpa using ht) (getD_replicate_false _ _)⟩ (by simp [slotsOf]; omega) hI (fun i hi hl => by
   have : i < l.length := by omega
   simp [this] at hl) (fun i hi _ => hP i hi)
 rw [putAll_slots] at h
 rw [show n + (l.length - n) = l.toArray.size by simp; omega] at h
 exact h
end
end Go.Proofs.YtbkaffhbhimglaaGreat

/-
  A statement that makes two rows of a call's own longer by one, in an order that Go leaves open: what each operation leaves. The conditions: none (definitions and lemmas).
-/
namespace Go.Proofs.YtbkaffhbhimglaaGreat
open Go.RowKit
set_option maxRecDepth 100000
theorem zbg {P : Program} {o : Oper} {a : Act} {w w' : World} {K : Act → World → Prop} {Q : Exit → Act → World → Prop} {ops : Array Oper} {v : Value} (hg : o.guard = none) (hrun : (execOp a.eval o).run P w = .ok (.value v) w') (hk : K (a.put o.dst v) w') :
  if Region.wanted o (yielded ops a.tmps) then o.wp P a w K Q else K (a.put o.dst undef) w := by
 rw [if_pos (by simp [Region.wanted, hg])]
 unfold Oper.wp
 rw [hrun]
 exact hk
theorem zea {P : Program} {o : Oper} {a : Act} {w : World} (s x : Operand) (t : TypeId)
  (ho : o.op = .call { callee := .builtin .append, args := #[s, x], argTypes := #[t, t] })
  (base : Nat) (e : TypeId) (i : TypeInfo) (z : Value) (size bytes : Nat) (ht : P.underlying t = some (.slice e)) (hi : P.info? e = some i) (hz : i.zero = some z)
  (hsize : i.size = size) (hby : i.bytes = bytes) (hzs : z.cells.size = size) (hsz : 0 < size)
  (v : Value) (n : Nat) (xs : List Value) (hs : a.eval s = v) (hown : w.ownsRow base e size v n xs)
  (b of m c : Nat) (news : List Value) (hx : a.eval x = .slice (some ⟨b, of, none⟩) m c) (hl : news.length = m * size) (hnews : CellsAt w b of news) (h1 : ∀ u ∈ news, u.oneCell' = true)
  (h63 : n + m ≤ maxLen) (hbytes : (n + m) * bytes ≤ 140737488355328) (hbase : base ≤ w.heap.size) :
  ∃ v' w', (execOp a.eval o).run P w = .ok (.value v') w' ∧ w'.ownsRow base e size v' (n + m) (xs ++ news) ∧ GrownBy w w' v.ownBlock ∧ (v'.ownBlock = v.ownBlock ∨ v'.ownBlock = some w.heap.size) := by
 obtain ⟨v', w', hrun, h2, h3, _, h4⟩ := run_append_own_at (P := P) w base t o.type e i z size bytes ht hi hz hsize hby hzs hsz v n xs hown ⟨b, of, none⟩ m c news hl (cell_add hnews) h1 h63 hbytes hbase
 refine ⟨v', w', ?_, h2, ⟨h3, zed _ _ _ _ hrun⟩, h4⟩
 unfold execOp
 simp only [ho, resolve, invoke, builtin, Sem.run_bind, Sem.run_pure, Result.andThen_ok, List.map_toArray, List.map_cons, List.map_nil, hs, hx, hrun]
theorem za5 {P : Program} {o : Oper} {a : Act} {w : World} (ty : TypeId) (x : Operand) (ho : o.op = .load ty x)
  (b off : Nat) (hx : a.eval x = .pointer (some ⟨b, off, none⟩)) {cs : List Value} {n : Nat} (hA : ∀ w, (isAgg ty).run P w = .ok true w) (hz : ∀ w, (Go.sizeOf ty).run P w = .ok n w) (hn : cs.length = n)
  (h : CellsAt w b off cs) : (execOp a.eval o).run P w = .ok (.value (.agg cs.toArray)) w := by
 unfold execOp
 simp only [ho, hx, Instr.loadAt, Instr.sureAddr, Sem.run_bind, Sem.run_pure, Result.andThen_ok, zct hA hz hn h]
theorem zav {w w' : World} {base : Nat} {e : TypeId} {size : Nat} {v : Value} {n : Nat} {xs : List Value} {r : Option Nat} (h : w.ownsRow base e size v n xs) (k : GrownBy w w' r) (hr : ∀ b, v.ownBlock = some b → r ≠ some b) : w'.ownsRow base e size v n xs := by
 obtain ⟨h1, h2⟩ := h
 refine ⟨h1, ?_⟩
 rcases h2 with h2 | ⟨g, cap, cur, hv, hg, hh, q⟩
 ·exact .inl h2
 ·refine .inr ⟨g, cap, cur, hv, hg, (k.block _ (zad hh) fun e => ?_).trans hh, q⟩
  exact hr g (by rw [hv]; rfl) e.symm
section two
variable (v0 : World) (base O F : Nat) (I N : Value) (k : Nat) (xsI xsN : List Value) (nm : ByteArray) (cs : List Value)
def Longer (T : TypeId) (size : Nat) (R : Value) (xs news : List Value) (x : Value) (w : World) : Prop :=
 w.ownsRow base T size x (k + 1) (xs ++ news) ∧ (x.ownBlock = R.ownBlock ∨ ∀ b, x.ownBlock = some b → v0.heap.size ≤ b)
def OneNew (cs : List Value) (x : Value) (w : World) : Prop := ∃ b, x = .slice (some ⟨b, 0, none⟩) 1 1 ∧ v0.heap.size ≤ b ∧ b < w.heap.size ∧ CellsAt w b 0 cs
def twoΦ : Nat → Value → World → Prop
 | 0, x, _ => x = .pointer (some ⟨O, 7, none⟩)
 | 1, x, _ => x = N
 | 2, x, _ => x = .pointer (some ⟨F, 0, none⟩)
 | 3, x, _ => x = .string nm
 | 4, x, w => OneNew v0 [.string nm] x w
 | 5, x, w => Longer v0 base k 9 1 N xsN [.string nm] x w
 | 6, x, _ => x = .pointer (some ⟨O, 6, none⟩)
 | 7, x, _ => x = I
 | 8, x, _ => x = .pointer (some ⟨F, 1, none⟩)
 | 9, x, _ => x = .agg cs.toArray
 | 10, x, w => OneNew v0 cs x w
 | 11, x, w => Longer v0 base k 46 8 I xsI cs x w
 | 12, x, _ => x = .pointer (some ⟨O, 7, none⟩)
 | _, _, _ => True
def twoT : Nat → World → World → Prop
 | 4, w, w' => Ext w w'
 | 10, w, w' => Ext w w'
 | 5, w, w' => GrownBy w w' N.ownBlock
 | 11, w, w' => GrownBy w w' I.ownBlock
 | _, w, w' => w' = w
def twoPre : Nat → World → Prop
 | 5, w => w.ownsRow base 9 1 N k xsN
 | 11, w => w.ownsRow base 46 8 I k xsI
 | _, _ => True
structure TwoInv (w : World) : Prop where
 os : w.os = v0.os
 tape : w.tape = v0.tape
 output : w.output = v0.output
 size : v0.heap.size ≤ w.heap.size
 block : ∀ b, b < v0.heap.size → I.ownBlock ≠ some b → N.ownBlock ≠ some b → w.heap[b]? = v0.heap[b]?
 drawn : v0.drawn ≤ w.drawn
theorem OneNew.ext {v0 w w' : World} {cs : List Value} {x : Value} (h : OneNew v0 cs x w) (k : Ext w w') : OneNew v0 cs x w' := by
 obtain ⟨b, h1, h2, h3, h4⟩ := h
 exact ⟨b, h1, h2, Nat.lt_of_lt_of_le h3 k.size, h4.alike (S := fun c => c < w.heap.size) h3 (Alike.of_ext k fun _ h => h)⟩
theorem OneNew.grown {v0 w w' : World} {cs : List Value} {x : Value} {r : Option Nat} (h : OneNew v0 cs x w) (k : GrownBy w w' r) (hr : ∀ b, r = some b → b < v0.heap.size) : OneNew v0 cs x w' := by
 obtain ⟨b, h1, h2, h3, h4⟩ := h
 refine ⟨b, h1, h2, Nat.lt_of_lt_of_le h3 k.size, fun j v hj => ?_⟩
 exact (World.cell?_of_block (w := w) (a := ⟨b, 0 + j, none⟩) (k.block b h3 (fun e => by have := hr b e.symm; omega))).trans (h4 j v hj)
theorem Longer.ext {v0 : World} {base k : Nat} {T : TypeId} {size : Nat} {R x : Value} {xs news : List Value} {w w' : World} (h : Longer v0 base k T size R xs news x w) (e : Ext w w') : Longer v0 base k T size R xs news x w' := ⟨zam h.1 e, h.2⟩
theorem Longer.grown {v0 : World} {base k : Nat} {T : TypeId} {size : Nat} {R x : Value} {xs news : List Value} {w w' : World} {r : Option Nat} (h : Longer v0 base k T size R xs news x w) (e : GrownBy w w' r) (hr : ∀ b, r = some b → b < v0.heap.size) (hR : ∀ b, R.ownBlock = some b → r ≠ some b) :
  Longer v0 base k T size R xs news x w' :=
 ⟨zav h.1 e fun b hb hrb => by
  rcases h.2 with h2 | h2
  ·exact hR b (h2 ▸ hb) hrb
  ·have := h2 b hb; have := hr b hrb; omega, h.2⟩
theorem two_phi (hI : ∀ b, I.ownBlock = some b → b < v0.heap.size) (hN : ∀ b, N.ownBlock = some b → b < v0.heap.size) (hne : ∀ b, I.ownBlock = some b → N.ownBlock ≠ some b) (i j : Nat) (v : Value) (w w' : World) (hij : i ≠ j) (ht : twoT I N j w w')
  (h : twoΦ v0 base O F I N k xsI xsN nm cs i v w) : twoΦ v0 base O F I N k xsI xsN nm cs i v w' := by
 unfold twoT at ht
 have hne' : ∀ b, N.ownBlock = some b → I.ownBlock ≠ some b := fun b h1 h2 => hne b h2 h1
 split at ht <;> first
  | (subst ht; exact h)
  | (unfold twoΦ at h ⊢; split at h <;> first | exact h | exact OneNew.ext h ht | exact Longer.ext h ht | (exact absurd rfl hij) | exact OneNew.grown h ht hN | exact OneNew.grown h ht hI | exact Longer.grown h ht hN hne | exact Longer.grown h ht hI hne')
theorem two_pre (hne : ∀ b, I.ownBlock = some b → N.ownBlock ≠ some b) (i j : Nat) (w w' : World) (hij : i ≠ j) (ht : twoT I N j w w') (h : twoPre base I N k xsI xsN i w) : twoPre base I N k xsI xsN i w' := by
 unfold twoT at ht
 have hne' : ∀ b, N.ownBlock = some b → I.ownBlock ≠ some b := fun b h1 h2 => hne b h2 h1
 split at ht <;> first
  | (subst ht; exact h)
  | (unfold twoPre at h ⊢; split at h <;> first | exact h | exact zam h ht | (exact absurd rfl hij) | exact zav h ht hne | exact zav h ht hne')
theorem TwoInv.ext {w w' : World} (h : TwoInv v0 I N w) (e : Ext w w') : TwoInv v0 I N w' :=
 ⟨e.os.trans h.os, e.tape.trans h.tape, e.output.trans h.output, Nat.le_trans h.size e.size, fun b hb h1 h2 => (e.block b (Nat.lt_of_lt_of_le hb h.size)).trans (h.block b hb h1 h2), Nat.le_trans h.drawn e.drawn⟩
theorem TwoInv.grownI {w w' : World} (h : TwoInv v0 I N w) (e : GrownBy w w' I.ownBlock) : TwoInv v0 I N w' :=
 ⟨e.os.trans h.os, e.tape.trans h.tape, e.output.trans h.output, Nat.le_trans h.size e.size, fun b hb h1 h2 => (e.block b (Nat.lt_of_lt_of_le hb h.size) (fun e => h1 e.symm)).trans (h.block b hb h1 h2), Nat.le_trans h.drawn e.drawn⟩
theorem TwoInv.grownN {w w' : World} (h : TwoInv v0 I N w) (e : GrownBy w w' N.ownBlock) : TwoInv v0 I N w' :=
 ⟨e.os.trans h.os, e.tape.trans h.tape, e.output.trans h.output, Nat.le_trans h.size e.size, fun b hb h1 h2 => (e.block b (Nat.lt_of_lt_of_le hb h.size) (fun e => h2 e.symm)).trans (h.block b hb h1 h2), Nat.le_trans h.drawn e.drawn⟩
end two
/-! ### the slots behind a list of results -/
theorem Act.eval_put_ne {a : Act} {d : Option Tmp} {v : Value} {t : Tmp} (h : d ≠ some t) : (a.put d v).eval (.tmp t) = a.eval (.tmp t) := by
 cases d with
 | none => rfl
 | some d =>
  have hd : d ≠ t := fun e => h (by rw [e])
  simp [Act.put, Act.eval, hd]
theorem Act.eval_put_same {a : Act} {v : Value} {t : Tmp} (h : t < a.tmps.size) : (a.put (some t) v).eval (.tmp t) = v := by
 simp [Act.put, Act.eval, h]
theorem Act.size_put {a : Act} {d : Option Tmp} {v : Value} : (a.put d v).tmps.size = a.tmps.size := by
 cases d <;> simp [Act.put]
theorem zde {t : Tmp} : ∀ (l : List Oper) (xs : List Value) (a : Act), (∀ o ∈ l, o.dst ≠ some t) → (zaw a l xs).eval (.tmp t) = a.eval (.tmp t)
 | [], _, _, _ => by simp [zaw]
 | _ :: _, [], _, _ => by simp [zaw]
 | o :: r, x :: s, a, h => by
  rw [zaw, zde r s _ fun p hp => h p (by simp [hp]), Act.eval_put_ne (h o (by simp))]
theorem putAll_at {t : Tmp} : ∀ (l : List Oper) (xs : List Value) (a : Act) (i : Nat) (o : Oper), (∀ (i j : Nat) (p q : Oper), l[i]? = some p → l[j]? = some q → i < j → p.dst ≠ q.dst) → l[i]? = some o → o.dst = some t → xs.length = l.length → t < a.tmps.size →
  (zaw a l xs).eval (.tmp t) = xs.getD i undef
 | [], _, _, _, _, _, h, _, _, _ => by simp at h
 | _ :: _, [], _, _, _, _, _, _, h, _ => by simp at h
 | p :: r, x :: s, a, 0, o, hd, h, ho, hl, ht => by
  simp at h; subst h
  rw [zaw, zde, ho, Act.eval_put_same ht]
  ·rfl
  ·intro q hq
   obtain ⟨j, hj, rfl⟩ := List.getElem_of_mem hq
   rw [← ho]
   exact (hd 0 (j + 1) p r[j] rfl (by simp [hj]) (by omega)).symm
 | p :: r, x :: s, a, i + 1, o, hd, h, ho, hl, ht => by
  rw [zaw, putAll_at r s _ i o (fun i j p q hi hj hij => hd (i + 1) (j + 1) p q (by simpa using hi) (by simpa using hj) (by omega)) (by simpa using h) ho (by simpa using hl) (by rw [Act.size_put]; exact ht)]
  simp
def twoOps (tO tF d : Nat) : Nat → Op
 | 0 => .fieldAddr 46 (.tmp tO) 6
 | 1 => .load 36 (.tmp d)
 | 2 => .fieldAddr 160 (.tmp tF) 0
 | 3 => .load 9 (.tmp (d + 2))
 | 4 => .buildSlice 36 1 #[(0, .tmp (d + 3))]
 | 5 => .call { callee := .builtin .append, args := #[.tmp (d + 1), .tmp (d + 4)], argTypes := #[36, 36] }
 | 6 => .fieldAddr 46 (.tmp tO) 5
 | 7 => .load 44 (.tmp (d + 6))
 | 8 => .fieldAddr 160 (.tmp tF) 1
 | 9 => .load 46 (.tmp (d + 8))
 | 10 => .buildSlice 44 1 #[(0, .tmp (d + 9))]
 | 11 => .call { callee := .builtin .append, args := #[.tmp (d + 7), .tmp (d + 10)], argTypes := #[44, 44] }
 | _ => .fieldAddr 46 (.tmp tO) 6
theorem zc1 (O : Nat) : (∀ w, (Instr.fieldAt 46 (.pointer (some ⟨O, 0, none⟩)) 6).run Tryz.prog w = .ok (.pointer (some ⟨O, 7, none⟩)) w) ∧ (∀ w, (Instr.fieldAt 46 (.pointer (some ⟨O, 0, none⟩)) 5).run Tryz.prog w = .ok (.pointer (some ⟨O, 6, none⟩)) w) ∧
  (∀ w, (Instr.fieldAt 160 (.pointer (some ⟨O, 0, none⟩)) 0).run Tryz.prog w = .ok (.pointer (some ⟨O, 0, none⟩)) w) ∧ (∀ w, (Instr.fieldAt 160 (.pointer (some ⟨O, 0, none⟩)) 1).run Tryz.prog w = .ok (.pointer (some ⟨O, 1, none⟩)) w) := by
 refine ⟨fun w => ?_, fun w => ?_, fun w => ?_, fun w => ?_⟩ <;> simp [Instr.fieldAt, go_sem]
theorem Tryz.build25 (s : ByteArray) : ∀ w, (Instr.buildSlice 36 1 #[(0, .string s)]).run Tryz.prog w = .ok (.slice (some ⟨w.heap.size, 0, none⟩) 1 1) (w.alloc (.cells #[.string s] 9)) := by
 intro w; simp [Instr.buildSlice, go_sem]
theorem Tryz.build24 (v0 v1 v2 v3 v4 v5 v6 v7 : Value) : ∀ w, (Instr.buildSlice 44 1 #[(0, .agg #[v0, v1, v2, v3, v4, v5, v6, v7])]).run Tryz.prog w = .ok (.slice (some ⟨w.heap.size, 0, none⟩) 1 1) (w.alloc (.cells #[v0, v1, v2, v3, v4, v5, v6, v7] 46)) := by
 intro w; simp [Instr.buildSlice, go_sem]
theorem zbd {P : Program} {o : Oper} {a : Act} {w : World} (ty : TypeId) (x : Operand) (ho : o.op = .load ty x) (b off : Nat) (hx : a.eval x = .pointer (some ⟨b, off, none⟩)) (hA : ∀ w, (isAgg ty).run P w = .ok false w) {v : Value}
  (hc : w.cell? ⟨b, off, none⟩ = some v) : (execOp a.eval o).run P w = .ok (.value v) w := by
 unfold execOp
 simp [ho, hx, Instr.loadAt, Instr.sureAddr, loadVar, hA, load, Sem.run, hc]
theorem zbq {P : Program} {o : Oper} {a : Act} {w : World} (ty : TypeId) (x : Operand) (f : Nat) (ho : o.op = .fieldAddr ty x f) {v v' : Value} (hx : a.eval x = v) (hf : ∀ w, (Instr.fieldAt ty v f).run P w = .ok v' w) :
  (execOp a.eval o).run P w = .ok (.value v') w := by
 unfold execOp
 simp [ho, hx, hf]
theorem exec_build {P : Program} {o : Oper} {a : Act} {w w' : World} (ty : TypeId) (x : Operand) (ho : o.op = .buildSlice ty 1 #[(0, x)]) {v v' : Value} (hx : a.eval x = v) (hf : (Instr.buildSlice ty 1 #[(0, v)]).run P w = .ok v' w') :
  (execOp a.eval o).run P w = .ok (.value v') w' := by
 unfold execOp
 simp [ho, hx, hf]
theorem Tryz.agg25 : ∀ w, (isAgg 36).run Tryz.prog w = .ok false w := fun _ => by kernel_rfl
theorem Tryz.agg24 : ∀ w, (isAgg 44).run Tryz.prog w = .ok false w := fun _ => by kernel_rfl
theorem Tryz.agg9 : ∀ w, (isAgg 9).run Tryz.prog w = .ok false w := fun _ => by kernel_rfl
theorem Tryz.info9 : (Tryz.prog.info? 9).map (fun i => (i.zero, i.size, i.bytes)) = some (some (.string ByteArray.empty), 1, 16) := by kernel_rfl
theorem row_types {w : World} {B B' : Nat} {T T' : TypeId} {n n' k k' : Nat} {v v' : Value} {xs xs' : List Value} (h : w.ownsRow B T n v k xs) (h' : w.ownsRow B' T' n' v' k' xs') (hT : T ≠ T') {b : Nat} (hb : v.ownBlock = some b) (hb' : v'.ownBlock = some b) : False := by
 rcases h.2 with ⟨rfl, _⟩ | ⟨g, cap, cur, rfl, _, hh, _⟩
 ·cases hb
 ·rcases h'.2 with ⟨rfl, _⟩ | ⟨g', cap', cur', rfl, _, hh', _⟩
  ·cases hb'
  ·have e1 : g = b := by injection hb
   have e2 : g' = b := by injection hb'
   subst e1; subst e2
   rw [hh] at hh'
   injection hh' with hh'
   injection hh' with _ h2
   exact hT h2
theorem two_region {l : List Oper} {id : Nat} {a0 : Act} {Q : Exit → Act → World → Prop} {w3 : World} {B O F : Nat} {I N : Value} {k : Nat} {xsI xsN : List Value} {nm : ByteArray} {cs : List Value} (tO tF d : Nat)
  (hm : Tryz.prog.follows .mixedOrders = true) (hB : monoB l 13 = true)
  (hshape : ∀ i, i < 13 → ∃ o, l[i]? = some o ∧ o.op = twoOps tO tF d i ∧ o.dst = some (d + i) ∧ o.guard = none)
  (hw : zbf l 1 0 = true ∧ zbf l 3 2 = true ∧ zbf l 4 3 = true ∧ zbf l 5 1 = true ∧ zbf l 5 4 = true ∧ zbf l 7 6 = true ∧ zbf l 9 8 = true ∧ zbf l 10 9 = true ∧ zbf l 11 7 = true ∧ zbf l 11 10 = true)
  (hd : d + 13 ≤ a0.tmps.size) (htO : tO < d) (htF : tF < d) (hO : a0.eval (.tmp tO) = .pointer (some ⟨O, 0, none⟩)) (hF : a0.eval (.tmp tF) = .pointer (some ⟨F, 0, none⟩))
  (cN : w3.cell? ⟨O, 7, none⟩ = some N) (cI : w3.cell? ⟨O, 6, none⟩ = some I) (cF : CellsAt w3 F 0 (.string nm :: cs)) (hcl : cs.length = 8) (hco : ∀ v ∈ cs, v.oneCell' = true) (lO : O < w3.heap.size) (lF : F < w3.heap.size)
  (nO : ∀ b, b = O → I.ownBlock ≠ some b ∧ N.ownBlock ≠ some b) (nF : ∀ b, b = F → I.ownBlock ≠ some b ∧ N.ownBlock ≠ some b)
  (hI : w3.ownsRow B 46 8 I k xsI) (hN : w3.ownsRow B 9 1 N k xsN) (hne : ∀ b, I.ownBlock = some b → N.ownBlock ≠ some b) (hBl : B ≤ w3.heap.size) (hk : k + 1 ≤ 1048576)
  (hQ : ∀ xs w, xs.length = 13 → TwoInv w3 I N w → Longer w3 B k 9 1 N xsN [.string nm] (xs.getD 5 undef) w → Longer w3 B k 46 8 I xsI cs (xs.getD 11 undef) w → xs.getD 12 undef = .pointer (some ⟨O, 7, none⟩) →
   (∀ b, (xs.getD 5 undef).ownBlock = some b → (xs.getD 11 undef).ownBlock ≠ some b) → wpList Tryz.prog l.toArray Q (l.drop 13) (zaw a0 (l.take 13) xs) w) : (Code.region id l.toArray true).wp Tryz.prog Q a0 w3 := by
 have hIl : ∀ b, I.ownBlock = some b → b < w3.heap.size := fun b hb => (hI.lt b hb).2
 have hNl : ∀ b, N.ownBlock = some b → b < w3.heap.size := fun b hb => (hN.lt b hb).2
 obtain ⟨i27, hi27, hz27, hs27, hb27⟩ := info_parts zen
 obtain ⟨i9, hi9, hz9, hs9, hb9⟩ := info_parts Tryz.info9
 have hdst : ∀ (i j : Nat) (p q : Oper), (l.take 13)[i]? = some p → (l.take 13)[j]? = some q → i < j → p.dst ≠ q.dst := fun i j p q hp hq hij => by
  rw [List.getElem?_take] at hp hq
  split at hp <;> split at hq <;> try (first | (cases hp; done) | (cases hq; done))
  rename_i h1 h2
  obtain ⟨o1, e1, _, d1, _⟩ := hshape i h1
  obtain ⟨o2, e2, _, d2, _⟩ := hshape j h2
  rw [e1] at hp; rw [e2] at hq
  cases hp; cases hq
  rw [d1, d2]
  intro e; injection e with e; omega
 have hln : (l.take 13).length = 13 := by
  obtain ⟨o, e, _⟩ := hshape 12 (by omega)
  have := (List.getElem?_eq_some_iff.1 e).1
  rw [List.length_take]; omega
 -- what a slot holds
 have hat : ∀ (xs : List Value) (i : Nat), xs.length = 13 → i < 13 → (zaw a0 (l.take 13) xs).eval (.tmp (d + i)) = xs.getD i undef := fun xs i hx hi => by
  obtain ⟨o, e, _, d1, _⟩ := hshape i hi
  exact putAll_at _ xs a0 i o hdst (by rw [List.getElem?_take, if_pos hi]; exact e) d1 (by rw [hx, hln]) (Nat.lt_of_lt_of_le (Nat.add_lt_add_left hi d) hd)
 have hold : ∀ (xs : List Value) (t : Nat), t < d → (zaw a0 (l.take 13) xs).eval (.tmp t) = a0.eval (.tmp t) := fun xs t ht => zde _ xs a0 fun o ho => by
  obtain ⟨i, hi, rfl⟩ := List.getElem_of_mem ho
  obtain ⟨o', e, _, d1, _⟩ := hshape i (by rw [hln] at hi; exact hi)
  have : (l.take 13)[i]? = some (l.take 13)[i] := List.getElem?_eq_getElem hi
  rw [List.getElem?_take, if_pos (by rw [hln] at hi; exact hi), e] at this
  injection this with this
  rw [← this, d1]
  intro e; injection e with e; omega
 obtain ⟨w10, w32, w43, w51, w54, w76, w98, wA9, wB7, wBA⟩ := hw
 refine region_mono 13 (TwoInv w3 I N) (twoT I N) (twoPre B I N k xsI xsN) (twoΦ w3 B O F I N k xsI xsN nm cs) hm hB ⟨rfl, rfl, rfl, Nat.le_refl _, fun _ _ _ _ => rfl, Nat.le_succ _⟩ (fun i hi => ?_) (fun i o hi ho => ?_)
  (fun i j w w' _ _ hij _ _ ht h => two_pre B I N k xsI _ hne i j w w' hij ht h) (fun i j v w w' _ _ hij _ _ ht h => two_phi w3 B O F I N k xsI xsN nm cs hIl hNl hne i j v w w' hij ht h) (fun i o xs w hi ho _ hun => ?_) (fun xs w hx hv hf => ?_)
 ·rcases (by omega : i = 5 ∨ i = 11 ∨ (i ≠ 5 ∧ i ≠ 11)) with rfl | rfl | ⟨h1, h2⟩
  ·exact hN.drew
  ·exact hI.drew
  ·unfold twoPre; split <;> first | trivial | (exact absurd rfl h1) | (exact absurd rfl h2)
 ·obtain ⟨o', e, hop, hds, hgd⟩ := hshape i hi
  rw [e] at ho; injection ho with ho; subst ho
  intro xs W hlen hIv hP hf Q' K hK
  have cO : ∀ j u, w3.cell? ⟨O, j, none⟩ = some u → W.cell? ⟨O, j, none⟩ = some u := fun j u h => (World.cell?_of_block (a := ⟨O, j, none⟩) (hIv.block O lO (nO O rfl).1 (nO O rfl).2)).trans h
  have cF' : ∀ j u, w3.cell? ⟨F, j, none⟩ = some u → W.cell? ⟨F, j, none⟩ = some u := fun j u h => (World.cell?_of_block (a := ⟨F, j, none⟩) (hIv.block F lF (nF F rfl).1 (nF F rfl).2)).trans h
  rcases (by omega : i = 0 ∨ i = 1 ∨ i = 2 ∨ i = 3 ∨ i = 4 ∨ i = 5 ∨ i = 6 ∨ i = 7 ∨ i = 8 ∨ i = 9 ∨ i = 10 ∨ i = 11 ∨ i = 12) with rfl | rfl | rfl | rfl | rfl | rfl | rfl | rfl | rfl | rfl | rfl | rfl | rfl
  ·exact zbg hgd (zbq _ _ _ hop ((hold xs tO htO).trans hO) (zc1 O).1) (hK _ _ rfl rfl hIv)
  ·exact zbg hgd (zbd _ _ hop O 7 ((hat xs 0 hlen (by omega)).trans (hf 0 (by omega) w10)) Tryz.agg25 (cO 7 N cN)) (hK _ _ rfl rfl hIv)
  ·exact zbg hgd (zbq _ _ _ hop ((hold xs tF htF).trans hF) (zc1 F).2.2.1) (hK _ _ rfl rfl hIv)
  ·exact zbg hgd (zbd _ _ hop F 0 ((hat xs 2 hlen (by omega)).trans (hf 2 (by omega) w32)) Tryz.agg9 (cF' 0 (.string nm) (by simpa using cF 0 _ rfl))) (hK _ _ rfl rfl hIv)
  ·exact zbg hgd (exec_build _ _ hop ((hat xs 3 hlen (by omega)).trans (hf 3 (by omega) w43)) (Tryz.build25 nm W)) (hK _ _ ⟨W.heap.size, rfl, hIv.size, by simp, zap _ _ rfl⟩ ((Ext.refl W).alloc _) (TwoInv.ext w3 I N hIv ((Ext.refl W).alloc _)))
  ·obtain ⟨b4, e4, g4, l4, c4⟩ := hf 4 (by omega) w54
   have e1 : xs.getD 1 undef = N := hf 1 (by omega) w51
   obtain ⟨v', w', hrun, ho', hg', hv'⟩ := zea (a := zaw a0 (l.take 13) xs) (.tmp (d + 1)) (.tmp (d + 4)) 36 hop B 9 i9 (.string ByteArray.empty) 1 16 Tryz.underlying36 hi9 hz9 hs9 hb9 rfl (by decide) N k xsN ((hat xs 1 hlen (by omega)).trans e1) hP b4 0 1 1 [.string nm] ((hat xs 4 hlen (by omega)).trans e4) rfl c4
    (by intro u hu; simp at hu; subst hu; rfl) (by rw [zab]; omega) (by omega) (Nat.le_trans hBl hIv.size)
   exact zbg hgd hrun (hK _ _ ⟨ho', hv'.imp (fun h => h) fun h b hb => by rw [h] at hb; injection hb with hb; have := hIv.size; omega⟩ hg' (TwoInv.grownN w3 I N hIv hg'))
  ·exact zbg hgd (zbq _ _ _ hop ((hold xs tO htO).trans hO) (zc1 O).2.1) (hK _ _ rfl rfl hIv)
  ·exact zbg hgd (zbd _ _ hop O 6 ((hat xs 6 hlen (by omega)).trans (hf 6 (by omega) w76)) Tryz.agg24 (cO 6 I cI)) (hK _ _ rfl rfl hIv)
  ·exact zbg hgd (zbq _ _ _ hop ((hold xs tF htF).trans hF) (zc1 F).2.2.2) (hK _ _ rfl rfl hIv)
  ·exact zbg hgd (za5 _ _ hop F 1 ((hat xs 8 hlen (by omega)).trans (hf 8 (by omega) w98)) zai zaf hcl (fun j u hj => cF' _ _ (by rw [Nat.add_comm]; simpa using cF (j + 1) u (by simpa using hj)))) (hK _ _ rfl rfl hIv)
  ·obtain ⟨v0, v1, v2, v3, v4, v5, v6, v7, rfl⟩ : ∃ v0 v1 v2 v3 v4 v5 v6 v7, cs = [v0, v1, v2, v3, v4, v5, v6, v7] := by
    match cs, hcl with
    | [_, _, _, _, _, _, _, _], _ => exact ⟨_, _, _, _, _, _, _, _, rfl⟩
   exact zbg hgd (exec_build _ _ hop ((hat xs 9 hlen (by omega)).trans (hf 9 (by omega) wA9)) (Tryz.build24 v0 v1 v2 v3 v4 v5 v6 v7 W)) (hK _ _ ⟨W.heap.size, rfl, hIv.size, by simp, zap _ _ rfl⟩ ((Ext.refl W).alloc _) (TwoInv.ext w3 I N hIv ((Ext.refl W).alloc _)))
  ·obtain ⟨b4, e4, g4, l4, c4⟩ := hf 10 (by omega) wBA
   have e1 : xs.getD 7 undef = I := hf 7 (by omega) wB7
   obtain ⟨v', w', hrun, ho', hg', hv'⟩ := zea (a := zaw a0 (l.take 13) xs) (.tmp (d + 7)) (.tmp (d + 10)) 44 hop B 46 i27 (.agg zeroCells.toArray) 8 120 Tryz.underlying44 hi27 hz27 hs27 hb27 rfl (by decide) I k xsI ((hat xs 7 hlen (by omega)).trans e1) hP b4 0 1 1 cs ((hat xs 10 hlen (by omega)).trans e4) (by rw [hcl]) c4
    hco (by rw [zab]; omega) (by omega) (Nat.le_trans hBl hIv.size)
   exact zbg hgd hrun (hK _ _ ⟨ho', hv'.imp (fun h => h) fun h b hb => by rw [h] at hb; injection hb with hb; have := hIv.size; omega⟩ hg' (TwoInv.grownI w3 I N hIv hg'))
  ·exact zbg hgd (zbq _ _ _ hop ((hold xs tO htO).trans hO) (zc1 O).1) (hK _ _ rfl rfl hIv)
 ·obtain ⟨o', e, _, _, hgd⟩ := hshape i hi
  rw [e] at ho; injection ho with ho; subst ho
  simp [Region.wanted, hgd] at hun
 ·have h5 : Longer w3 B k 9 1 N xsN [.string nm] (xs.getD 5 undef) w := hf 5 (by omega)
  have h11 : Longer w3 B k 46 8 I xsI cs (xs.getD 11 undef) w := hf 11 (by omega)
  refine hQ xs w hx hv h5 h11 (hf 12 (by omega)) fun b hb1 hb2 => ?_
  exact row_types h5.1 h11.1 (by decide) hb1 hb2
theorem list13 {α : Type} {l : List α} (h : l.length = 13) : ∃ a0 a1 a2 a3 a4 a5 a6 a7 a8 a9 a10 a11 a12, l = [a0, a1, a2, a3, a4, a5, a6, a7, a8, a9, a10, a11, a12] := by
 match l, h with
 | [_, _, _, _, _, _, _, _, _, _, _, _, _], _ => exact ⟨_, _, _, _, _, _, _, _, _, _, _, _, _, rfl⟩
theorem Ext.setRow {w w' : World} (h : Ext w w') {g : Nat} (hg : w.heap.size ≤ g) (cs : Array Value) : Ext w (w'.setRow g cs) := by
 refine ⟨⟨h.os, h.tape, h.output, by simpa [World.setRow] using h.size, fun b hb => ?_⟩, h.drawn⟩
 have := (GrownBy.setRow w' g cs).block b (Nat.lt_of_lt_of_le hb h.size) (fun e => by injection e with e; omega)
 exact this.trans (h.block b hb)
theorem zaj {P : Program} {fn : Func} {tmps : Array Value} {w : World} {a t : Tmp} {T : TypeId} {g n : Nat} {cs : List Value} (h : fn.results = #[.cell a T, .tmp t]) (hp : tmps.getD a undef = .pointer (some ⟨g, 0, none⟩))
  (hA : ∀ w, (isAgg T).run P w = .ok true w) (hz : ∀ w, (Go.sizeOf T).run P w = .ok n w) (hn : cs.length = n) (hc : CellsAt w g 0 cs) : (results fn tmps).run P w = .ok (.tuple #[.agg cs.toArray, tmps.getD t undef]) w := by
 have hp' : tmps[a]?.getD undef = .pointer (some ⟨g, 0, none⟩) := by simpa using hp
 simp [results, h, hp', asAddr, zct hA hz hn hc]
theorem zao {w : World} {g : Nat} {cur : Array Value} {T : TypeId} (h : w.heap[g]? = some (.cells cur T (0, 0))) {cs : List Value} {l : List Value} (hl : l = cs) : CellsAt (w.setRow g l.toArray) g 0 cs := fun j v hj => by
 subst hl
 rw [cell_of_row _ _ _ _ _ _ (zbx h _), Nat.zero_add]; simpa using hj
theorem zbm {w : World} {g : Nat} {cur : Array Value} {T : TypeId} {fz : Nat × Nat} (h : w.heap[g]? = some (.cells cur T fz)) (j : Nat) (v : Value) : (w.setCell ⟨g, j, none⟩ v).heap[g]? = some (.cells (cur.setIfInBounds j v) T fz) := by
 simp [World.setCell, Array.getElem?_modify, h]
theorem GrownBy.setCell (w : World) (g j : Nat) (v : Value) : GrownBy w (w.setCell ⟨g, j, none⟩ v) (some g) :=
 ⟨⟨rfl, rfl, rfl, by simp [World.setCell], fun b _ hb => Below.heap_setCell w ⟨g, j, none⟩ v b (fun e => hb (by rw [e]))⟩, Nat.le_refl _⟩
theorem zax {w : World} {base : Nat} {e : TypeId} {size n : Nat} {v : Value} {xs : List Value} (h : w.ownsRow base e size v n xs) : ∃ A cap, v = .slice A n cap := by
 rcases h.2 with ⟨rfl, rfl⟩ | ⟨g, cap, cur, rfl, _⟩
 ·exact ⟨none, 0, rfl⟩
 ·exact ⟨_, cap, rfl⟩
theorem own_strs {S : Nat → Prop} {w : World} {base : Nat} {e : TypeId} {v : Value} {l : List ByteArray} (h : w.ownsRow base e 1 v l.length (l.map Value.string)) (hl : l.length ≤ LIM) (hs : ∀ s ∈ l, s.size ≤ maxLen)
  (h2 : ∀ b, v.ownBlock = some b → S b) : StrsAt S w l v := by
 obtain ⟨hx, hv⟩ := h
 rcases hv with ⟨rfl, hn⟩ | ⟨g, cap, cur, rfl, hg, hh, hnc, hcm, hcur, htake⟩
 ·exact ⟨none, 0, by rw [hn], hl, by omega, by rw [zab]; omega, hs, by omega⟩
 ·refine ⟨_, cap, rfl, hl, hnc, hcm, hs, fun hn => ⟨g, 0, rfl, h2 g rfl, fun j u hj => ?_⟩⟩
  rw [cell_of_row _ _ _ _ _ _ hh, Nat.zero_add]
  rw [← htake, List.getElem?_take] at hj
  split at hj
  ·simpa using hj
  ·cases hj
end Go.Proofs.YtbkaffhbhimglaaGreat
