/-
  EvalAttributes: what the statement's own function answers. The conditions: the arguments lie in memory as they should; the table of operators lies as it is laid at the start.
-/
import Derived.Test.YtebfoimbdljbmaaGreatDoorGq
import Derived.Test.YtebfoimbdljbmaaGreatDoorGm
import Derived.Test.YtebfoimbdljbmaaGreatDoorSame14Q
namespace Go.Proofs.YtebfoimbdljbmaaGreatDoor
open Go.RowKit
open Lib renaming hid → q_
set_option maxRecDepth 100000
set_option maxHeartbeats 4000000
theorem inK {w : World} {e : Exp} {name : ByteArray} {op : Int} {b : Nat} {cs : List Value} (ho : I64 op) (hn : name.size ≤ maxLen) (hr : w.heap[b]? = some (.cells cs.toArray 30 (0, 0))) (he : Exp.At (fun b => b < w.heap.size) w e cs) :
  Exp.At (fun b => b < w.heap.size) w (.mk op .zero name [e] []) (.int .i64 op :: (zeroCells ++ [.string name, .slice (some ⟨b, 0, none⟩) 1 1, .slice none 0 0])) :=
 Exp.At.of ho hn (Val.zero_at _ _) (kids_at (xs := cs) hr (by have h := zec (cs := cs) he flat_nil; rwa [List.append_nil] at h) (by rw [zaq]; simp) rfl (by simp) (by rw [zaj]; omega)) (strs_nil _ _)
theorem evT_ok {q : Req} {c : List Ent} : ∀ n, EvOf Att3 q c n
 | 0 => fun e g w cs hn => by cases e; simp at hn
 | n + 1 => fun e g w cs hn hl hr he => by
  have ih := evT_ok (q := q) (c := c) n
  cases hb : zcu e.op e.kids.length e.names.length with
  | true => exact eval_bad ih e g w cs hb hn hl hr he
  | false =>
   rcases (Exp.fine_iff.1 hl).1 with h | h | h
   ·exact eval_lit ih e g w cs h hb hn hl hr he
   ·exact eval_one ih e g w cs (.inr (.inr (.inr (.inl h)))) hb (fun S a W ca hS hr he ha => by rw [h]; exact one_17 S e a g W cs ca h hS hr he ha) hn hl hr he
   ·exact eval_one ih e g w cs (.inr (.inr (.inr (.inr h)))) hb (fun S a W ca hS hr he ha => by rw [h]; exact one_18 S e a g W cs ca h hS hr he ha) hn hl hr he
theorem evalAttributes_walk (av : Val) (name : ByteArray) (has deep : Bool) (l : List Ent) (W : World) (ca : List Value) (v : Value) (ha : Val.At (fun b => b < W.heap.size) W av ca) (hnm : name.size ≤ maxLen) (hl : entR.RowsAt (fun b => b < W.heap.size) W l v) (hs : Sums W) :
  Calls Tryz.prog 7 #[.agg ca.toArray, .string name, .bool has, .bool deep, v] W fun e W' => e = .returned (.bool true) ∧ Ext W W' := by
 have HAv := q_ ha
 have HS := q_ hs
 have HN := q_ hnm
 obtain ⟨fk, fb, fn, fs, ft, fu, fi, fm⟩ := av
 obtain ⟨fA, fc, fB, fd, rfl⟩ := ha.opened
 obtain ⟨A, cap, rfl, _⟩ := id hl
 have HL := q_ hl
 have HA0 := q_ (heap_alloc_new W (.cells #[.int .i64 fk, .bool fb, .int .i64 fn, .string fs, .string ft, .string fu, .slice fA fi.length fc, .slice fB fm.length fd] 27))
 have HX0 := q_ ((Ext.refl W).alloc (.cells #[.int .i64 fk, .bool fb, .int .i64 fn, .string fs, .string ft, .string fu, .slice fA fi.length fc, .slice fB fm.length fd] 27))
 clear ha hs hl hnm
 go_enter Tryz.func7, Tryz.ntmps7
 go_wp2_with fail
 refine (awake14_ok _ (HS.out.ext HX0.out)).mono ?_
 rintro e1 v1 ⟨rfl, hx1⟩
 have HX1 := q_ (HX0.out.trans hx1)
 have HA1 := q_ ((hx1.block _ (zaf HA0.out)).trans HA0.out)
 clear hx1 HX0 HA0
 go_wp2_with ((with_reducible refine zaw ?_; refine zab rfl 27 _ rfl W.heap.size 0 rfl zae zaa (cs := [.int .i64 fk, .bool fb, .int .i64 fn, .string fs, .string ft, .string fu, .slice fA fi.length fc, .slice fB fm.length fd]) rfl (zak HA1.out) ?_))
 refine (lit_ok fk fb fn fs ft fu fA fi.length fc fB fm.length fd _).mono ?_
 rintro e2 v2 ⟨rfl, hx2⟩
 have HXp := q_ (HX1.out.trans hx2)
 clear hx2 HX1 HA1
 cases has <;> cases deep
 case' false.false =>
  obtain ⟨p0, p1, ps, px⟩ := zdr v2 (.cells #[.int .i64 1, .int .i64 fk, .bool fb, .int .i64 fn, .string fs, .string ft, .string fu, .slice fA fi.length fc, .slice fB fm.length fd, .string ByteArray.empty, .slice none 0 0, .slice none 0 0] 30) (.cells #[.int .i64 18, .int .i64 0, .bool false, .int .i64 0, .string ByteArray.empty, .string ByteArray.empty, .string ByteArray.empty, .slice none 0 0, .slice none 0 0, .string name, .slice (some ⟨v2.heap.size, 0, none⟩) 1 1, .slice none 0 0] 30)
  have HR0 := q_ p0
  have HE0 := q_ p1
  clear p0 p1 ps px
  go_wp2_with (fail)
  obtain ⟨v3, hW⟩ : ∃ W, W = (v2.alloc (.cells #[.int .i64 1, .int .i64 fk, .bool fb, .int .i64 fn, .string fs, .string ft, .string fu, .slice fA fi.length fc, .slice fB fm.length fd, .string ByteArray.empty, .slice none 0 0, .slice none 0 0] 30)).alloc (.cells #[.int .i64 18, .int .i64 0, .bool false, .int .i64 0, .string ⟨#[]⟩, .string ⟨#[]⟩, .string ⟨#[]⟩, .slice none 0 0, .slice none 0 0, .string name, .slice (some ⟨v2.heap.size, 0, none⟩) 1 1, .slice none 0 0] 30) := ⟨_, rfl⟩
  rw [← hW]
  obtain ⟨p0, p1, ps, px⟩ := zdr v2 (.cells #[.int .i64 1, .int .i64 fk, .bool fb, .int .i64 fn, .string fs, .string ft, .string fu, .slice fA fi.length fc, .slice fB fm.length fd, .string ByteArray.empty, .slice none 0 0, .slice none 0 0] 30) (.cells #[.int .i64 18, .int .i64 0, .bool false, .int .i64 0, .string ⟨#[]⟩, .string ⟨#[]⟩, .string ⟨#[]⟩, .slice none 0 0, .slice none 0 0, .string name, .slice (some ⟨v2.heap.size, 0, none⟩) 1 1, .slice none 0 0] 30)
  rw [← hW] at p0 p1 px
  have HX1 := q_ (HXp.out.trans px)
  have HXi := q_ (show InX v3 (Exp.mk 18 .zero name [.lit (Val.mk fk fb fn fs ft fu fi fm)] []) [.int .i64 18, .int .i64 0, .bool false, .int .i64 0, .string ByteArray.empty, .string ByteArray.empty, .string ByteArray.empty, .slice none 0 0, .slice none 0 0, .string name, .slice (some ⟨v2.heap.size, 0, none⟩) 1 1, .slice none 0 0] from inK (b := v2.heap.size) (cs := [.int .i64 1, .int .i64 fk, .bool fb, .int .i64 fn, .string fs, .string ft, .string fu, .slice fA fi.length fc, .slice fB fm.length fd, .string ByteArray.empty, .slice none 0 0, .slice none 0 0]) (by unfold I64; omega) HN.out p0 (lit_at (Val.At.mono (fun b hb => Nat.lt_of_lt_of_le hb (HXp.out.trans px).size) _ _ (Val.At.alike (Alike.of_ext (HXp.out.trans px) fun _ h => h) _ _ HAv.out))))
  have HE1 := q_ (show v3.heap[v2.heap.size + 1]? = some (.cells #[.int .i64 18, .int .i64 0, .bool false, .int .i64 0, .string ByteArray.empty, .string ByteArray.empty, .string ByteArray.empty, .slice none 0 0, .slice none 0 0, .string name, .slice (some ⟨v2.heap.size, 0, none⟩) 1 1, .slice none 0 0] 30 (0, 0)) from p1)
  have HOp := q_ (show ((Exp.mk 18 .zero name [.lit (Val.mk fk fb fn fs ft fu fi fm)] [])).ops Att3 by simp [Exp.lit, Exp.ops, Exp.opsL, Att3])
  clear hW p0 p1 ps px HR0 HE0 HXp
  obtain ⟨kb, hkb⟩ : ∃ k, v2.heap.size + 1 = k := ⟨_, rfl⟩
  rw [hkb] at HE1 ⊢
  clear hkb
  obtain ⟨ks, hks⟩ : ∃ k, v2.heap.size = k := ⟨_, rfl⟩
  rw [hks] at HE1 HXi ⊢
  clear hks
  obtain ⟨x, hxx⟩ : ∃ x, (Exp.mk 18 .zero name [.lit (Val.mk fk fb fn fs ft fu fi fm)] []) = x := ⟨_, rfl⟩
  rw [hxx] at HXi HOp
  clear hxx
  obtain ⟨eo, heo⟩ : ∃ o, (18 : Int) = o := ⟨_, rfl⟩
  rw [heo] at HE1 HXi ⊢
  clear heo
 case' false.true =>
  obtain ⟨p0, p1, ps, px⟩ := zdr v2 (.cells #[.int .i64 1, .int .i64 fk, .bool fb, .int .i64 fn, .string fs, .string ft, .string fu, .slice fA fi.length fc, .slice fB fm.length fd, .string ByteArray.empty, .slice none 0 0, .slice none 0 0] 30) (.cells #[.int .i64 18, .int .i64 0, .bool false, .int .i64 0, .string ByteArray.empty, .string ByteArray.empty, .string ByteArray.empty, .slice none 0 0, .slice none 0 0, .string name, .slice (some ⟨v2.heap.size, 0, none⟩) 1 1, .slice none 0 0] 30)
  have HR0 := q_ p0
  have HE0 := q_ p1
  clear p0 p1 ps px
  have HE4 := q_ ((heap_alloc_old ((v2.alloc (.cells #[.int .i64 1, .int .i64 fk, .bool fb, .int .i64 fn, .string fs, .string ft, .string fu, .slice fA fi.length fc, .slice fB fm.length fd, .string ByteArray.empty, .slice none 0 0, .slice none 0 0] 30)).alloc (.cells #[.int .i64 18, .int .i64 0, .bool false, .int .i64 0, .string ByteArray.empty, .string ByteArray.empty, .string ByteArray.empty, .slice none 0 0, .slice none 0 0, .string name, .slice (some ⟨v2.heap.size, 0, none⟩) 1 1, .slice none 0 0] 30)) (.cells #[.int .i64 18, .int .i64 0, .bool false, .int .i64 0, .string ByteArray.empty, .string ByteArray.empty, .string ByteArray.empty, .slice none 0 0, .slice none 0 0, .string name, .slice (some ⟨v2.heap.size, 0, none⟩) 1 1, .slice none 0 0] 30) (zaf HE0.out)).trans HE0.out)
  go_wp2_with (first | (with_reducible refine zaw ?_; refine zab rfl 30 _ rfl (v2.heap.size + 1) 0 rfl zar zao (cs := [.int .i64 18, .int .i64 0, .bool false, .int .i64 0, .string ByteArray.empty, .string ByteArray.empty, .string ByteArray.empty, .slice none 0 0, .slice none 0 0, .string name, .slice (some ⟨v2.heap.size, 0, none⟩) 1 1, .slice none 0 0]) rfl (zak HE0.out) ?_) | (with_reducible refine za4 ?_; refine zad rfl 30 _ _ rfl (v2.heap.size + 1) 0 rfl [.int .i64 18, .int .i64 0, .bool false, .int .i64 0, .string ByteArray.empty, .string ByteArray.empty, .string ByteArray.empty, .slice none 0 0, .slice none 0 0, .string name, .slice (some ⟨v2.heap.size + 1 + 1, 0, none⟩) 1 1, .slice none 0 0] rfl zao rfl 30 [.int .i64 18, .int .i64 0, .bool false, .int .i64 0, .string ByteArray.empty, .string ByteArray.empty, .string ByteArray.empty, .slice none 0 0, .slice none 0 0, .string name, .slice (some ⟨v2.heap.size, 0, none⟩) 1 1, .slice none 0 0].toArray HE4.out (by simp) (by intro v hv; simp at hv; rcases hv with rfl | rfl | rfl | rfl | rfl | rfl <;> rfl) ?_))
  obtain ⟨v3, hW⟩ : ∃ W, W = ((v2.alloc (.cells #[.int .i64 1, .int .i64 fk, .bool fb, .int .i64 fn, .string fs, .string ft, .string fu, .slice fA fi.length fc, .slice fB fm.length fd, .string ByteArray.empty, .slice none 0 0, .slice none 0 0] 30)).alloc (.cells #[.int .i64 18, .int .i64 0, .bool false, .int .i64 0, .string ⟨#[]⟩, .string ⟨#[]⟩, .string ⟨#[]⟩, .slice none 0 0, .slice none 0 0, .string name, .slice (some ⟨v2.heap.size + 1 + 1, 0, none⟩) 1 1, .slice none 0 0] 30)).alloc (.cells #[.int .i64 18, .int .i64 0, .bool false, .int .i64 0, .string ⟨#[]⟩, .string ⟨#[]⟩, .string ⟨#[]⟩, .slice none 0 0, .slice none 0 0, .string name, .slice (some ⟨v2.heap.size, 0, none⟩) 1 1, .slice none 0 0] 30) := ⟨_, rfl⟩
  rw [← hW]
  obtain ⟨p0, p1, p2, ps, px⟩ := zdn v2 (.cells #[.int .i64 1, .int .i64 fk, .bool fb, .int .i64 fn, .string fs, .string ft, .string fu, .slice fA fi.length fc, .slice fB fm.length fd, .string ByteArray.empty, .slice none 0 0, .slice none 0 0] 30) (.cells #[.int .i64 18, .int .i64 0, .bool false, .int .i64 0, .string ⟨#[]⟩, .string ⟨#[]⟩, .string ⟨#[]⟩, .slice none 0 0, .slice none 0 0, .string name, .slice (some ⟨v2.heap.size + 1 + 1, 0, none⟩) 1 1, .slice none 0 0] 30) (.cells #[.int .i64 18, .int .i64 0, .bool false, .int .i64 0, .string ⟨#[]⟩, .string ⟨#[]⟩, .string ⟨#[]⟩, .slice none 0 0, .slice none 0 0, .string name, .slice (some ⟨v2.heap.size, 0, none⟩) 1 1, .slice none 0 0] 30)
  rw [← hW] at p0 p1 p2 px
  have HX1 := q_ (HXp.out.trans px)
  have HXi := q_ (show InX v3 (Exp.mk 18 .zero name [(Exp.mk 18 .zero name [.lit (Val.mk fk fb fn fs ft fu fi fm)] [])] []) [.int .i64 18, .int .i64 0, .bool false, .int .i64 0, .string ByteArray.empty, .string ByteArray.empty, .string ByteArray.empty, .slice none 0 0, .slice none 0 0, .string name, .slice (some ⟨v2.heap.size + 1 + 1, 0, none⟩) 1 1, .slice none 0 0] from inK (b := v2.heap.size + 1 + 1) (cs := [.int .i64 18, .int .i64 0, .bool false, .int .i64 0, .string ByteArray.empty, .string ByteArray.empty, .string ByteArray.empty, .slice none 0 0, .slice none 0 0, .string name, .slice (some ⟨v2.heap.size, 0, none⟩) 1 1, .slice none 0 0]) (by unfold I64; omega) HN.out p2 (inK (b := v2.heap.size) (cs := [.int .i64 1, .int .i64 fk, .bool fb, .int .i64 fn, .string fs, .string ft, .string fu, .slice fA fi.length fc, .slice fB fm.length fd, .string ByteArray.empty, .slice none 0 0, .slice none 0 0]) (by unfold I64; omega) HN.out p0 (lit_at (Val.At.mono (fun b hb => Nat.lt_of_lt_of_le hb (HXp.out.trans px).size) _ _ (Val.At.alike (Alike.of_ext (HXp.out.trans px) fun _ h => h) _ _ HAv.out)))))
  have HE1 := q_ (show v3.heap[v2.heap.size + 1]? = some (.cells #[.int .i64 18, .int .i64 0, .bool false, .int .i64 0, .string ByteArray.empty, .string ByteArray.empty, .string ByteArray.empty, .slice none 0 0, .slice none 0 0, .string name, .slice (some ⟨v2.heap.size + 1 + 1, 0, none⟩) 1 1, .slice none 0 0] 30 (0, 0)) from p1)
  have HOp := q_ (show ((Exp.mk 18 .zero name [(Exp.mk 18 .zero name [.lit (Val.mk fk fb fn fs ft fu fi fm)] [])] [])).ops Att3 by simp [Exp.lit, Exp.ops, Exp.opsL, Att3])
  clear hW p0 p1 p2 ps px HR0 HE0 HXp HE4
  obtain ⟨ks, hks⟩ : ∃ k, v2.heap.size + 1 + 1 = k := ⟨_, rfl⟩
  rw [hks] at HE1 HXi ⊢
  clear hks
  obtain ⟨kb, hkb⟩ : ∃ k, v2.heap.size + 1 = k := ⟨_, rfl⟩
  rw [hkb] at HE1 ⊢
  clear hkb
  obtain ⟨x, hxx⟩ : ∃ x, (Exp.mk 18 .zero name [(Exp.mk 18 .zero name [.lit (Val.mk fk fb fn fs ft fu fi fm)] [])] []) = x := ⟨_, rfl⟩
  rw [hxx] at HXi HOp
  clear hxx
  obtain ⟨eo, heo⟩ : ∃ o, (18 : Int) = o := ⟨_, rfl⟩
  rw [heo] at HE1 HXi ⊢
  clear heo
 case' true.false =>
  obtain ⟨p0, p1, ps, px⟩ := zdr v2 (.cells #[.int .i64 1, .int .i64 fk, .bool fb, .int .i64 fn, .string fs, .string ft, .string fu, .slice fA fi.length fc, .slice fB fm.length fd, .string ByteArray.empty, .slice none 0 0, .slice none 0 0] 30) (.cells #[.int .i64 18, .int .i64 0, .bool false, .int .i64 0, .string ByteArray.empty, .string ByteArray.empty, .string ByteArray.empty, .slice none 0 0, .slice none 0 0, .string name, .slice (some ⟨v2.heap.size, 0, none⟩) 1 1, .slice none 0 0] 30)
  have HR0 := q_ p0
  have HE0 := q_ p1
  clear p0 p1 ps px
  go_wp2_with (fail)
  obtain ⟨v3, hW⟩ : ∃ W, W = (v2.alloc (.cells #[.int .i64 1, .int .i64 fk, .bool fb, .int .i64 fn, .string fs, .string ft, .string fu, .slice fA fi.length fc, .slice fB fm.length fd, .string ByteArray.empty, .slice none 0 0, .slice none 0 0] 30)).alloc (.cells #[.int .i64 17, .int .i64 0, .bool false, .int .i64 0, .string ⟨#[]⟩, .string ⟨#[]⟩, .string ⟨#[]⟩, .slice none 0 0, .slice none 0 0, .string name, .slice (some ⟨v2.heap.size, 0, none⟩) 1 1, .slice none 0 0] 30) := ⟨_, rfl⟩
  rw [← hW]
  obtain ⟨p0, p1, ps, px⟩ := zdr v2 (.cells #[.int .i64 1, .int .i64 fk, .bool fb, .int .i64 fn, .string fs, .string ft, .string fu, .slice fA fi.length fc, .slice fB fm.length fd, .string ByteArray.empty, .slice none 0 0, .slice none 0 0] 30) (.cells #[.int .i64 17, .int .i64 0, .bool false, .int .i64 0, .string ⟨#[]⟩, .string ⟨#[]⟩, .string ⟨#[]⟩, .slice none 0 0, .slice none 0 0, .string name, .slice (some ⟨v2.heap.size, 0, none⟩) 1 1, .slice none 0 0] 30)
  rw [← hW] at p0 p1 px
  have HX1 := q_ (HXp.out.trans px)
  have HXi := q_ (show InX v3 (Exp.mk 17 .zero name [.lit (Val.mk fk fb fn fs ft fu fi fm)] []) [.int .i64 17, .int .i64 0, .bool false, .int .i64 0, .string ByteArray.empty, .string ByteArray.empty, .string ByteArray.empty, .slice none 0 0, .slice none 0 0, .string name, .slice (some ⟨v2.heap.size, 0, none⟩) 1 1, .slice none 0 0] from inK (b := v2.heap.size) (cs := [.int .i64 1, .int .i64 fk, .bool fb, .int .i64 fn, .string fs, .string ft, .string fu, .slice fA fi.length fc, .slice fB fm.length fd, .string ByteArray.empty, .slice none 0 0, .slice none 0 0]) (by unfold I64; omega) HN.out p0 (lit_at (Val.At.mono (fun b hb => Nat.lt_of_lt_of_le hb (HXp.out.trans px).size) _ _ (Val.At.alike (Alike.of_ext (HXp.out.trans px) fun _ h => h) _ _ HAv.out))))
  have HE1 := q_ (show v3.heap[v2.heap.size + 1]? = some (.cells #[.int .i64 17, .int .i64 0, .bool false, .int .i64 0, .string ByteArray.empty, .string ByteArray.empty, .string ByteArray.empty, .slice none 0 0, .slice none 0 0, .string name, .slice (some ⟨v2.heap.size, 0, none⟩) 1 1, .slice none 0 0] 30 (0, 0)) from p1)
  have HOp := q_ (show ((Exp.mk 17 .zero name [.lit (Val.mk fk fb fn fs ft fu fi fm)] [])).ops Att3 by simp [Exp.lit, Exp.ops, Exp.opsL, Att3])
  clear hW p0 p1 ps px HR0 HE0 HXp
  obtain ⟨kb, hkb⟩ : ∃ k, v2.heap.size + 1 = k := ⟨_, rfl⟩
  rw [hkb] at HE1 ⊢
  clear hkb
  obtain ⟨ks, hks⟩ : ∃ k, v2.heap.size = k := ⟨_, rfl⟩
  rw [hks] at HE1 HXi ⊢
  clear hks
  obtain ⟨x, hxx⟩ : ∃ x, (Exp.mk 17 .zero name [.lit (Val.mk fk fb fn fs ft fu fi fm)] []) = x := ⟨_, rfl⟩
  rw [hxx] at HXi HOp
  clear hxx
  obtain ⟨eo, heo⟩ : ∃ o, (17 : Int) = o := ⟨_, rfl⟩
  rw [heo] at HE1 HXi ⊢
  clear heo
 case' true.true =>
  obtain ⟨p0, p1, ps, px⟩ := zdr v2 (.cells #[.int .i64 1, .int .i64 fk, .bool fb, .int .i64 fn, .string fs, .string ft, .string fu, .slice fA fi.length fc, .slice fB fm.length fd, .string ByteArray.empty, .slice none 0 0, .slice none 0 0] 30) (.cells #[.int .i64 18, .int .i64 0, .bool false, .int .i64 0, .string ByteArray.empty, .string ByteArray.empty, .string ByteArray.empty, .slice none 0 0, .slice none 0 0, .string name, .slice (some ⟨v2.heap.size, 0, none⟩) 1 1, .slice none 0 0] 30)
  have HR0 := q_ p0
  have HE0 := q_ p1
  clear p0 p1 ps px
  have HE4 := q_ ((heap_alloc_old ((v2.alloc (.cells #[.int .i64 1, .int .i64 fk, .bool fb, .int .i64 fn, .string fs, .string ft, .string fu, .slice fA fi.length fc, .slice fB fm.length fd, .string ByteArray.empty, .slice none 0 0, .slice none 0 0] 30)).alloc (.cells #[.int .i64 18, .int .i64 0, .bool false, .int .i64 0, .string ByteArray.empty, .string ByteArray.empty, .string ByteArray.empty, .slice none 0 0, .slice none 0 0, .string name, .slice (some ⟨v2.heap.size, 0, none⟩) 1 1, .slice none 0 0] 30)) (.cells #[.int .i64 18, .int .i64 0, .bool false, .int .i64 0, .string ByteArray.empty, .string ByteArray.empty, .string ByteArray.empty, .slice none 0 0, .slice none 0 0, .string name, .slice (some ⟨v2.heap.size, 0, none⟩) 1 1, .slice none 0 0] 30) (zaf HE0.out)).trans HE0.out)
  go_wp2_with (first | (with_reducible refine zaw ?_; refine zab rfl 30 _ rfl (v2.heap.size + 1) 0 rfl zar zao (cs := [.int .i64 18, .int .i64 0, .bool false, .int .i64 0, .string ByteArray.empty, .string ByteArray.empty, .string ByteArray.empty, .slice none 0 0, .slice none 0 0, .string name, .slice (some ⟨v2.heap.size, 0, none⟩) 1 1, .slice none 0 0]) rfl (zak HE0.out) ?_) | (with_reducible refine za4 ?_; refine zad rfl 30 _ _ rfl (v2.heap.size + 1) 0 rfl [.int .i64 18, .int .i64 0, .bool false, .int .i64 0, .string ByteArray.empty, .string ByteArray.empty, .string ByteArray.empty, .slice none 0 0, .slice none 0 0, .string name, .slice (some ⟨v2.heap.size + 1 + 1, 0, none⟩) 1 1, .slice none 0 0] rfl zao rfl 30 [.int .i64 18, .int .i64 0, .bool false, .int .i64 0, .string ByteArray.empty, .string ByteArray.empty, .string ByteArray.empty, .slice none 0 0, .slice none 0 0, .string name, .slice (some ⟨v2.heap.size, 0, none⟩) 1 1, .slice none 0 0].toArray HE4.out (by simp) (by intro v hv; simp at hv; rcases hv with rfl | rfl | rfl | rfl | rfl | rfl <;> rfl) ?_))
  obtain ⟨v3, hW⟩ : ∃ W, W = ((v2.alloc (.cells #[.int .i64 1, .int .i64 fk, .bool fb, .int .i64 fn, .string fs, .string ft, .string fu, .slice fA fi.length fc, .slice fB fm.length fd, .string ByteArray.empty, .slice none 0 0, .slice none 0 0] 30)).alloc (.cells #[.int .i64 17, .int .i64 0, .bool false, .int .i64 0, .string ⟨#[]⟩, .string ⟨#[]⟩, .string ⟨#[]⟩, .slice none 0 0, .slice none 0 0, .string name, .slice (some ⟨v2.heap.size + 1 + 1, 0, none⟩) 1 1, .slice none 0 0] 30)).alloc (.cells #[.int .i64 18, .int .i64 0, .bool false, .int .i64 0, .string ⟨#[]⟩, .string ⟨#[]⟩, .string ⟨#[]⟩, .slice none 0 0, .slice none 0 0, .string name, .slice (some ⟨v2.heap.size, 0, none⟩) 1 1, .slice none 0 0] 30) := ⟨_, rfl⟩
  rw [← hW]
  obtain ⟨p0, p1, p2, ps, px⟩ := zdn v2 (.cells #[.int .i64 1, .int .i64 fk, .bool fb, .int .i64 fn, .string fs, .string ft, .string fu, .slice fA fi.length fc, .slice fB fm.length fd, .string ByteArray.empty, .slice none 0 0, .slice none 0 0] 30) (.cells #[.int .i64 17, .int .i64 0, .bool false, .int .i64 0, .string ⟨#[]⟩, .string ⟨#[]⟩, .string ⟨#[]⟩, .slice none 0 0, .slice none 0 0, .string name, .slice (some ⟨v2.heap.size + 1 + 1, 0, none⟩) 1 1, .slice none 0 0] 30) (.cells #[.int .i64 18, .int .i64 0, .bool false, .int .i64 0, .string ⟨#[]⟩, .string ⟨#[]⟩, .string ⟨#[]⟩, .slice none 0 0, .slice none 0 0, .string name, .slice (some ⟨v2.heap.size, 0, none⟩) 1 1, .slice none 0 0] 30)
  rw [← hW] at p0 p1 p2 px
  have HX1 := q_ (HXp.out.trans px)
  have HXi := q_ (show InX v3 (Exp.mk 17 .zero name [(Exp.mk 18 .zero name [.lit (Val.mk fk fb fn fs ft fu fi fm)] [])] []) [.int .i64 17, .int .i64 0, .bool false, .int .i64 0, .string ByteArray.empty, .string ByteArray.empty, .string ByteArray.empty, .slice none 0 0, .slice none 0 0, .string name, .slice (some ⟨v2.heap.size + 1 + 1, 0, none⟩) 1 1, .slice none 0 0] from inK (b := v2.heap.size + 1 + 1) (cs := [.int .i64 18, .int .i64 0, .bool false, .int .i64 0, .string ByteArray.empty, .string ByteArray.empty, .string ByteArray.empty, .slice none 0 0, .slice none 0 0, .string name, .slice (some ⟨v2.heap.size, 0, none⟩) 1 1, .slice none 0 0]) (by unfold I64; omega) HN.out p2 (inK (b := v2.heap.size) (cs := [.int .i64 1, .int .i64 fk, .bool fb, .int .i64 fn, .string fs, .string ft, .string fu, .slice fA fi.length fc, .slice fB fm.length fd, .string ByteArray.empty, .slice none 0 0, .slice none 0 0]) (by unfold I64; omega) HN.out p0 (lit_at (Val.At.mono (fun b hb => Nat.lt_of_lt_of_le hb (HXp.out.trans px).size) _ _ (Val.At.alike (Alike.of_ext (HXp.out.trans px) fun _ h => h) _ _ HAv.out)))))
  have HE1 := q_ (show v3.heap[v2.heap.size + 1]? = some (.cells #[.int .i64 17, .int .i64 0, .bool false, .int .i64 0, .string ByteArray.empty, .string ByteArray.empty, .string ByteArray.empty, .slice none 0 0, .slice none 0 0, .string name, .slice (some ⟨v2.heap.size + 1 + 1, 0, none⟩) 1 1, .slice none 0 0] 30 (0, 0)) from p1)
  have HOp := q_ (show ((Exp.mk 17 .zero name [(Exp.mk 18 .zero name [.lit (Val.mk fk fb fn fs ft fu fi fm)] [])] [])).ops Att3 by simp [Exp.lit, Exp.ops, Exp.opsL, Att3])
  clear hW p0 p1 p2 ps px HR0 HE0 HXp HE4
  obtain ⟨ks, hks⟩ : ∃ k, v2.heap.size + 1 + 1 = k := ⟨_, rfl⟩
  rw [hks] at HE1 HXi ⊢
  clear hks
  obtain ⟨kb, hkb⟩ : ∃ k, v2.heap.size + 1 = k := ⟨_, rfl⟩
  rw [hkb] at HE1 ⊢
  clear hkb
  obtain ⟨x, hxx⟩ : ∃ x, (Exp.mk 17 .zero name [(Exp.mk 18 .zero name [.lit (Val.mk fk fb fn fs ft fu fi fm)] [])] []) = x := ⟨_, rfl⟩
  rw [hxx] at HXi HOp
  clear hxx
  obtain ⟨eo, heo⟩ : ∃ o, (17 : Int) = o := ⟨_, rfl⟩
  rw [heo] at HE1 HXi ⊢
  clear heo
 all_goals
  refine (fit14_ok x reqZ l v3 [.int .i64 eo, .int .i64 0, .bool false, .int .i64 0, .string ByteArray.empty, .string ByteArray.empty, .string ByteArray.empty, .slice none 0 0, .slice none 0 0, .string name, .slice (some ⟨ks, 0, none⟩) 1 1, .slice none 0 0] reqC (.slice A l.length cap) HXi.out (reqZ_at _ _) ((HL.out.alike (Alike.of_ext HX1.out fun _ h => h)).mono fun b hb => Nat.lt_of_lt_of_le hb HX1.out.size)).mono ?_
  rintro e3 w2 ⟨r, hr, rfl, hx⟩
  have HX2 := q_ (HX1.out.trans hx)
  have HXj := q_ (HXi.out.ext hx)
  have HE2 := q_ ((hx.block _ (zaf HE1.out)).trans HE1.out)
  have HR := q_ hr
  clear hx hr HX1 HXi HE1
  cases r with
  | false =>
   go_wp2_with fail
   go_ret
   exact ⟨rfl, HX2.out⟩
  | true =>
  have HF := q_ (HR.out rfl)
  clear HR
  have hsm := HF.out
  have HXe2 : Hid (InX w2 x [.int .i64 eo, .int .i64 0, .bool false, .int .i64 0, .string ByteArray.empty, .string ByteArray.empty, .string ByteArray.empty, .slice none 0 0, .slice none 0 0, .string name, .slice (some ⟨ks, 0, none⟩) 1 1, .slice none 0 0]) := q_ (HXj.out)
  have HQe2 : Hid (InR w2 reqZ reqC) := q_ (reqZ_at _ _)
  have HL2 : Hid (entR.RowsAt (fun b => b < w2.heap.size) w2 l (.slice A l.length cap)) := q_ ((HL.out.alike (Alike.of_ext HX2.out fun _ h => h)).mono fun b hb => Nat.lt_of_lt_of_le hb HX2.out.size)
  have hl20 := hsm.crowd.len
  have HP : Hid (∀ e ∈ l, e.ps.length ≤ 1000) := q_ fun e he => by have := (hsm.crowd.each e he).1; omega
  have HD : Hid (∀ e ∈ l, e.av.dep ≤ 1000000) := q_ fun e he => by have := (hsm.crowd.each e he).2; omega
  have HCc := q_ (crowd_canon hsm.crowd)
  have HDx : Hid ((x).dep ≤ 1000000) := q_ (by have := hsm.dep; omega)
  have HLx : Hid (((x).fine Att3)) := q_ (⟨Exp.lits_mono (by omega) _ hsm.lits, HOp.out⟩)
  have HCx : Hid ((reqZ : Req).ctx.dep ≤ 1000000) := q_ (by unfold reqZ Val.zero; simp [Val.dep])
  clear hsm HL
  go_wp2_with fail
  refine (loadV_ok (fun b => b < w2.heap.size) l _ w2 (fun _ h => h) HL2.out (by omega) HP.out HD.out).mono ?_
  rintro e3 w3 ⟨pv, rfl, hsv, _, _, hx3⟩
  have HX3 := q_ (HX2.out.trans hx3)
  have HE3 := q_ ((hx3.block _ (zaf HE2.out)).trans HE2.out)
  have HSv3 := q_ hsv
  have Hx3 := q_ hx3
  clear hsv hx3
  go_wp2_with fail
  refine (canon5_ok (fun b => b < w2.heap.size) l _ w3 (fun b hb => Nat.lt_of_lt_of_le hb Hx3.out.size) (HL2.out.alike (Alike.of_ext Hx3.out fun _ h => h)) (by omega) HP.out HD.out).mono ?_
  rintro e4 w4 ⟨vb, rfl, hvb, hx4⟩
  have hcl := HSv3.out.tidy
  obtain ⟨c, hcc⟩ : ∃ c, c = (za7 l).1 := ⟨_, rfl⟩
  obtain ⟨er, herr⟩ : ∃ er, er = (za7 l).2 := ⟨_, rfl⟩
  rw [← hcc] at hvb hcl HSv3 HCc
  rw [← herr]
  obtain ⟨vA4, vc4, rfl, _⟩ := id hvb
  have HX4 := q_ (HX3.out.trans hx4)
  have Hx4 := q_ (Hx3.out.trans hx4)
  have HE4 := q_ ((hx4.block _ (zaf HE3.out)).trans HE3.out)
  have HSv4 := q_ (HSv3.out.ext hx4)
  have HEn4 : Hid (EntsIn (fun b => b < w4.heap.size) w4 c (.slice vA4 c.length vc4)) := q_ ⟨fun _ h => h, hvb, hcl⟩
  have HEm := q_ (evalA_ok (q := reqZ) evT_ok x w4 [.int .i64 eo, .int .i64 0, .bool false, .int .i64 0, .string ByteArray.empty, .string ByteArray.empty, .string ByteArray.empty, .slice none 0 0, .slice none 0 0, .string name, .slice (some ⟨ks, 0, none⟩) 1 1, .slice none 0 0] reqC pv HDx.out HLx.out (HXe2.out.ext Hx4.out) (HQe2.out.ext Hx4.out) HSv4.out HCx.out (HS.out.ext HX4.out))
  clear hvb hcl hx4 HSv3 HSv4 hcc herr HP HD HX3
  obtain ⟨res, hres⟩ : ∃ r, (x).eval reqZ c = r := ⟨_, rfl⟩
  rw [hres] at HEm
  have HRs := q_ hres
  clear hres
  obtain ⟨⟨zk, zb, zn, zs, zt, zu, zi, zm⟩, ez⟩ := res
  go_wp2_with (first | (with_reducible refine zaw ?_; refine zab rfl 30 _ rfl kb 0 rfl zar zao (cs := [.int .i64 eo, .int .i64 0, .bool false, .int .i64 0, .string ByteArray.empty, .string ByteArray.empty, .string ByteArray.empty, .slice none 0 0, .slice none 0 0, .string name, .slice (some ⟨ks, 0, none⟩) 1 1, .slice none 0 0]) rfl (zak HE4.out) ?_))
  refine HEm.out.mono ?_
  rintro e5 w5 ⟨cv5, rfl, hv5, hx5⟩
  obtain ⟨zA, zc, zB, zd, rfl⟩ := hv5.opened
  have HV5 := q_ (Val.At.mono (fun b hb => Nat.lt_of_lt_of_le hb.2 ((Ext.refl w5).alloc (.cells #[.int .i64 zk, .bool zb, .int .i64 zn, .string zs, .string zt, .string zu, .slice zA zi.length zc, .slice zB zm.length zd] 27)).size) _ _ (Val.At.alike (Alike.of_ext ((Ext.refl w5).alloc (.cells #[.int .i64 zk, .bool zb, .int .i64 zn, .string zs, .string zt, .string zu, .slice zA zi.length zc, .slice zB zm.length zd] 27)) fun b hb => hb.2) _ _ hv5))
  have HX5 := q_ ((HX4.out.trans hx5).alloc (.cells #[.int .i64 zk, .bool zb, .int .i64 zn, .string zs, .string zt, .string zu, .slice zA zi.length zc, .slice zB zm.length zd] 27))
  have Hx5 := q_ ((Hx4.out.trans hx5).alloc (.cells #[.int .i64 zk, .bool zb, .int .i64 zn, .string zs, .string zt, .string zu, .slice zA zi.length zc, .slice zB zm.length zd] 27))
  have Hn5 := q_ (hx5.alloc (.cells #[.int .i64 zk, .bool zb, .int .i64 zn, .string zs, .string zt, .string zu, .slice zA zi.length zc, .slice zB zm.length zd] 27))
  have HB5 := q_ (heap_alloc_new w5 (.cells #[.int .i64 zk, .bool zb, .int .i64 zn, .string zs, .string zt, .string zu, .slice zA zi.length zc, .slice zB zm.length zd] 27))
  have HE5 := q_ ((heap_alloc_old w5 (.cells #[.int .i64 zk, .bool zb, .int .i64 zn, .string zs, .string zt, .string zu, .slice zA zi.length zc, .slice zB zm.length zd] 27) (zaf ((hx5.block _ (zaf HE4.out)).trans HE4.out))).trans ((hx5.block _ (zaf HE4.out)).trans HE4.out))
  have HEr := q_ (evalRA_ok (S := fun b => b < (w5.alloc (.cells #[.int .i64 zk, .bool zb, .int .i64 zn, .string zs, .string zt, .string zu, .slice zA zi.length zc, .slice zB zm.length zd] 27)).heap.size) (q := reqZ) refT_ok HCc.out.2 x (w5.alloc (.cells #[.int .i64 zk, .bool zb, .int .i64 zn, .string zs, .string zt, .string zu, .slice zA zi.length zc, .slice zB zm.length zd] 27)) [.int .i64 eo, .int .i64 0, .bool false, .int .i64 0, .string ByteArray.empty, .string ByteArray.empty, .string ByteArray.empty, .slice none 0 0, .slice none 0 0, .string name, .slice (some ⟨ks, 0, none⟩) 1 1, .slice none 0 0] reqC (.slice vA4 c.length vc4) HDx.out HLx.out HCx.out (fun _ h => h) (HXe2.out.ext Hx5.out) (HQe2.out.ext Hx5.out) ((HEn4.out.ext Hn5.out).mono (fun _ h => h) fun b hb => Nat.lt_of_lt_of_le hb Hn5.out.size))
  rw [HRs.out] at HEr
  clear hv5 hx5 HEm HEn4 HXe2 HQe2 HL2 HX4 HCc
  go_wp2_with (first | (with_reducible refine zaw ?_; refine zab rfl 30 _ rfl kb 0 rfl zar zao (cs := [.int .i64 eo, .int .i64 0, .bool false, .int .i64 0, .string ByteArray.empty, .string ByteArray.empty, .string ByteArray.empty, .slice none 0 0, .slice none 0 0, .string name, .slice (some ⟨ks, 0, none⟩) 1 1, .slice none 0 0]) rfl (zak HE5.out) ?_))
  refine HEr.out.mono ?_
  rintro e6 w6 ⟨cv6, rfl, hv6, hx6⟩
  obtain ⟨yA, yc, yB, yd, rfl⟩ := hv6.opened
  have HX6 := q_ ((HX5.out.trans hx6).alloc (.cells #[.int .i64 zk, .bool zb, .int .i64 zn, .string zs, .string zt, .string zu, .slice yA zi.length yc, .slice yB zm.length yd] 27))
  have HB6 := q_ ((heap_alloc_old w6 (.cells #[.int .i64 zk, .bool zb, .int .i64 zn, .string zs, .string zt, .string zu, .slice yA zi.length yc, .slice yB zm.length yd] 27) (zaf ((hx6.block _ (zaf HB5.out)).trans HB5.out))).trans ((hx6.block _ (zaf HB5.out)).trans HB5.out))
  have HD6 := q_ (heap_alloc_new w6 (.cells #[.int .i64 zk, .bool zb, .int .i64 zn, .string zs, .string zt, .string zu, .slice yA zi.length yc, .slice yB zm.length yd] 27))
  have Hn6 := q_ (hx6.alloc (.cells #[.int .i64 zk, .bool zb, .int .i64 zn, .string zs, .string zt, .string zu, .slice yA zi.length yc, .slice yB zm.length yd] 27))
  have hsame := same14_ok (Val.mk zk zb zn zs zt zu zi zm) ez (fun b => b < (w6.alloc (.cells #[.int .i64 zk, .bool zb, .int .i64 zn, .string zs, .string zt, .string zu, .slice yA zi.length yc, .slice yB zm.length yd] 27)).heap.size) (w6.alloc (.cells #[.int .i64 zk, .bool zb, .int .i64 zn, .string zs, .string zt, .string zu, .slice yA zi.length yc, .slice yB zm.length yd] 27)) [.int .i64 zk, .bool zb, .int .i64 zn, .string zs, .string zt, .string zu, .slice zA zi.length zc, .slice zB zm.length zd] [.int .i64 zk, .bool zb, .int .i64 zn, .string zs, .string zt, .string zu, .slice yA zi.length yc, .slice yB zm.length yd] (fun _ h => h)
   (Val.At.mono (fun b hb => Nat.lt_of_lt_of_le hb Hn6.out.size) _ _ (Val.At.alike (Alike.of_ext Hn6.out fun _ h => h) _ _ HV5.out))
   (Val.At.mono (fun b hb => Nat.lt_of_lt_of_le (hb.elim (fun h => Nat.lt_of_lt_of_le h hx6.size) fun h => h.2) ((Ext.refl w6).alloc (.cells #[.int .i64 zk, .bool zb, .int .i64 zn, .string zs, .string zt, .string zu, .slice yA zi.length yc, .slice yB zm.length yd] 27)).size) _ _ (Val.At.alike (Alike.of_ext ((Ext.refl w6).alloc (.cells #[.int .i64 zk, .bool zb, .int .i64 zn, .string zs, .string zt, .string zu, .slice yA zi.length yc, .slice yB zm.length yd] 27)) fun b hb => hb.elim (fun h => Nat.lt_of_lt_of_le h hx6.size) fun h => h.2) _ _ hv6))
  have HSa := q_ hsame
  clear hsame hv6 hx6 HEr HV5 Hn5 Hn6 Hx5
  go_wp2_with (first | (with_reducible refine zaw ?_; refine zab rfl 27 _ rfl w5.heap.size 0 rfl zae zaa (cs := [.int .i64 zk, .bool zb, .int .i64 zn, .string zs, .string zt, .string zu, .slice zA zi.length zc, .slice zB zm.length zd]) rfl (zak HB6.out) ?_) | (with_reducible refine zaw ?_; refine zab rfl 27 _ rfl w6.heap.size 0 rfl zae zaa (cs := [.int .i64 zk, .bool zb, .int .i64 zn, .string zs, .string zt, .string zu, .slice yA zi.length yc, .slice yB zm.length yd]) rfl (zak HD6.out) ?_))
  refine HSa.out.mono ?_
  rintro e7 w7 ⟨rfl, hx7⟩
  have HX7 := q_ (HX6.out.trans hx7)
  clear hx7 HSa
  go_wp2_with fail
  go_ret
  exact ⟨rfl, HX7.out⟩
end Go.Proofs.YtebfoimbdljbmaaGreatDoor
