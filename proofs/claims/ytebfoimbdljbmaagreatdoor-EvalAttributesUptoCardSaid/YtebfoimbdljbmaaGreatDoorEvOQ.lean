/-
  What asks for one value, as the program's evaluation has it. The conditions: what is handed in lies in memory as it should.
-/
import Derived.Test.YtebfoimbdljbmaaGreatDoorEvIQ
namespace Go.Proofs.YtebfoimbdljbmaaGreatDoor
open Go.RowKit
open Lib renaming hid → q_
set_option maxRecDepth 100000
set_option maxHeartbeats 4000000
theorem bytes_dec (a b : ByteArray) : decide (a = b) = (a.toList == b.toList) := by
 by_cases h : a = b
 ·simp [h]
 ·rw [decide_eq_false h, Eq.comm, beq_eq_false_iff_ne]
  exact fun e => h (zcq e)
theorem one_17 {q : Req} {c : List Ent} (S : Nat → Prop) (e : Exp) (a : Val) (g : Nat) (w : World) (cs ca : List Value) (heo : e.op = 17) (hS : ∀ b, S b → b < w.heap.size) (hr : Rk q c w g) (he : InX w e cs) (ha : Val.At S w a ca) :
  Calls Tryz.prog 62 #[.pointer (some ⟨g, 0, none⟩), .agg cs.toArray, .agg ca.toArray] w (zci S (oneV c 17 e.name a).1 (oneV c 17 e.name a).2 w) := by
 have HX_e := q_ he
 obtain ⟨eo, ev, en, eks, ens⟩ := e
 obtain ⟨lk, lb, ln, ls, lt, lu, lA, ll, lc, lB, lm, ld, eK, ec, eN, ed, hcs, _, hev, hek, hen⟩ := Exp.At.shape he
 obtain rfl : cs = [.int .i64 eo, .int .i64 lk, .bool lb, .int .i64 ln, .string ls, .string lt, .string lu, .slice lA ll lc, .slice lB lm ld, .string en, .slice eK eks.length ec, .slice eN ens.length ed] := hcs
 have hev : InW w ev [.int .i64 lk, .bool lb, .int .i64 ln, .string ls, .string lt, .string lu, .slice lA ll lc, .slice lB lm ld] := hev
 have hek : expR.RowsAt (fun b => b < w.heap.size) w eks (.slice eK eks.length ec) := hek
 have hen : StrsAt (fun b => b < w.heap.size) w ens (.slice eN ens.length ed) := hen
 replace heo : eo = 17 := heo
 subst heo
 obtain ⟨ak, ab, an, as', at', au, ai, am⟩ := a
 obtain ⟨aA, ac, aB, ad, rfl⟩ := ha.opened
 show Calls _ _ _ _ (zci S (oneV c 17 en (Val.mk ak ab an as' at' au ai am)).1 (oneV c 17 en (Val.mk ak ab an as' at' au ai am)).2 w)
 have HS := q_ hS
 have HVa := q_ ha
 have HRk := q_ hr
 obtain ⟨res, hres⟩ : ∃ res, oneV c 17 en (Val.mk ak ab an as' at' au ai am) = res := ⟨_, rfl⟩
 rw [hres]
 obtain ⟨p0, p1, p2, ps, px⟩ := zdn w (.cells #[.int .i64 17, .int .i64 lk, .bool lb, .int .i64 ln, .string ls, .string lt, .string lu, .slice lA ll lc, .slice lB lm ld, .string en, .slice eK eks.length ec, .slice eN ens.length ed] 30) (.cells #[.int .i64 ak, .bool ab, .int .i64 an, .string as', .string at', .string au, .slice aA ai.length ac, .slice aB am.length ad] 27) (.cells zeroCells.toArray 27)
 have HE0 := q_ p0
 have HA0 := q_ p1
 have HR0 := q_ p2
 have HX0 := q_ px
 clear p0 p1 p2 ps px
 have HSW := q_ (show ∀ b, S b → b < (((w.alloc (.cells #[.int .i64 17, .int .i64 lk, .bool lb, .int .i64 ln, .string ls, .string lt, .string lu, .slice lA ll lc, .slice lB lm ld, .string en, .slice eK eks.length ec, .slice eN ens.length ed] 30)).alloc (.cells #[.int .i64 ak, .bool ab, .int .i64 an, .string as', .string at', .string au, .slice aA ai.length ac, .slice aB am.length ad] 27)).alloc (.cells zeroCells.toArray 27)).heap.size from fun b hb => Nat.lt_of_lt_of_le (HS.out b hb) HX0.out.size)
 have Hva := q_ (Val.At.alike (Alike.of_ext HX0.out HS.out) _ _ HVa.out)
 have HD : Hid (za3 c 17 en (Val.mk ak ab an as' at' au ai am) = res) := q_ (by rw [← hres]; simp [oneV])
 have HXW := q_ (HX_e.out.ext HX0.out)
 clear hS hr ha he hev hek hen hres
 have HC := q_ (show Calls _ _ _ _ (zci S (za3 c 17 en (Val.mk ak ab an as' at' au ai am)).1 (za3 c 17 en (Val.mk ak ab an as' at' au ai am)).2 (((w.alloc (.cells #[.int .i64 17, .int .i64 lk, .bool lb, .int .i64 ln, .string ls, .string lt, .string lu, .slice lA ll lc, .slice lB lm ld, .string en, .slice eK eks.length ec, .slice eN ens.length ed] 30)).alloc (.cells #[.int .i64 ak, .bool ab, .int .i64 an, .string as', .string at', .string au, .slice aA ai.length ac, .slice aB am.length ad] 27)).alloc (.cells zeroCells.toArray 27))) from attributeE_ok S (Exp.mk 17 ev en eks ens) (Val.mk ak ab an as' at' au ai am) g (((w.alloc (.cells #[.int .i64 17, .int .i64 lk, .bool lb, .int .i64 ln, .string ls, .string lt, .string lu, .slice lA ll lc, .slice lB lm ld, .string en, .slice eK eks.length ec, .slice eN ens.length ed] 30)).alloc (.cells #[.int .i64 ak, .bool ab, .int .i64 an, .string as', .string at', .string au, .slice aA ai.length ac, .slice aB am.length ad] 27)).alloc (.cells zeroCells.toArray 27)) [.int .i64 17, .int .i64 lk, .bool lb, .int .i64 ln, .string ls, .string lt, .string lu, .slice lA ll lc, .slice lB lm ld, .string en, .slice eK eks.length ec, .slice eN ens.length ed] [.int .i64 ak, .bool ab, .int .i64 an, .string as', .string at', .string au, .slice aA ai.length ac, .slice aB am.length ad] HSW.out (HRk.out.ext HX0.out) HXW.out Hva.out)
 rw [HD.out] at HC
 go_enter Tryz.func62, Tryz.ntmps62
 go_wp2_with (first | refine zab rfl 30 _ rfl w.heap.size 0 rfl zar zao (cs := [.int .i64 17, .int .i64 lk, .bool lb, .int .i64 ln, .string ls, .string lt, .string lu, .slice lA ll lc, .slice lB lm ld, .string en, .slice eK eks.length ec, .slice eN ens.length ed]) rfl (zak HE0.out) ?_ | refine zab rfl 27 _ rfl (w.heap.size + 1) 0 rfl zae zaa (cs := [.int .i64 ak, .bool ab, .int .i64 an, .string as', .string at', .string au, .slice aA ai.length ac, .slice aB am.length ad]) rfl (zak HA0.out) ?_)
 refine HC.out.mono ?_
 rintro e9 w9 ⟨cv, rfl, hv, hx9⟩
 obtain ⟨z, ez⟩ := res
 obtain ⟨zk, zb, zn, zs, zt, zu, zi, zm⟩ := z
 obtain ⟨zA, zc, zB, zd, rfl⟩ := hv.opened
 have HX9 := q_ (HX0.out.trans hx9)
 have HR9 := q_ ((hx9.block _ (zaf HR0.out)).trans HR0.out)
 have HV9 : Hid (Val.At (fun b => S b ∨ Fresh (w.heap.size + 3) w9 b) w9 (Val.mk zk zb zn zs zt zu zi zm) [.int .i64 zk, .bool zb, .int .i64 zn, .string zs, .string zt, .string zu, .slice zA zi.length zc, .slice zB zm.length zd]) := q_ (hv.mono fun b hb => hb.imp id fun h => ⟨Nat.le_trans (by simp) h.1, h.2⟩)
 clear hv hx9
 go_wp2_with (refine zad rfl 27 _ _ rfl (w.heap.size + 2) 0 rfl [.int .i64 zk, .bool zb, .int .i64 zn, .string zs, .string zt, .string zu, .slice zA zi.length zc, .slice zB zm.length zd] rfl zaa rfl 27 zeroCells.toArray HR9.out (by simp [zeroCells]) HV9.out.one ?_)
 exact bodyPost_ret (v := .tuple #[.agg (show List Value from [.int .i64 zk, .bool zb, .int .i64 zn, .string zs, .string zt, .string zu, .slice zA zi.length zc, .slice zB zm.length zd]).toArray, .int .i64 ez]) (zah Tryz.results62 rfl zae zaa rfl (zai HR9.out (by simp [zeroCells]))) rfl ⟨[.int .i64 zk, .bool zb, .int .i64 zn, .string zs, .string zt, .string zu, .slice zA zi.length zc, .slice zB zm.length zd], rfl, ret_in HV9.out HS.out (by omega) (Ext.refl w9) (by omega) HX9.out.size _, HX9.out.setRow (by omega) _⟩
theorem one_18 {q : Req} {c : List Ent} (S : Nat → Prop) (e : Exp) (a : Val) (g : Nat) (w : World) (cs ca : List Value) (heo : e.op = 18) (hS : ∀ b, S b → b < w.heap.size) (hr : Rk q c w g) (he : InX w e cs) (ha : Val.At S w a ca) :
  Calls Tryz.prog 62 #[.pointer (some ⟨g, 0, none⟩), .agg cs.toArray, .agg ca.toArray] w (zci S (oneV c 18 e.name a).1 (oneV c 18 e.name a).2 w) := by
 have HX_e := q_ he
 obtain ⟨eo, ev, en, eks, ens⟩ := e
 obtain ⟨lk, lb, ln, ls, lt, lu, lA, ll, lc, lB, lm, ld, eK, ec, eN, ed, hcs, _, hev, hek, hen⟩ := Exp.At.shape he
 obtain rfl : cs = [.int .i64 eo, .int .i64 lk, .bool lb, .int .i64 ln, .string ls, .string lt, .string lu, .slice lA ll lc, .slice lB lm ld, .string en, .slice eK eks.length ec, .slice eN ens.length ed] := hcs
 have hev : InW w ev [.int .i64 lk, .bool lb, .int .i64 ln, .string ls, .string lt, .string lu, .slice lA ll lc, .slice lB lm ld] := hev
 have hek : expR.RowsAt (fun b => b < w.heap.size) w eks (.slice eK eks.length ec) := hek
 have hen : StrsAt (fun b => b < w.heap.size) w ens (.slice eN ens.length ed) := hen
 replace heo : eo = 18 := heo
 subst heo
 obtain ⟨ak, ab, an, as', at', au, ai, am⟩ := a
 obtain ⟨aA, ac, aB, ad, rfl⟩ := ha.opened
 show Calls _ _ _ _ (zci S (oneV c 18 en (Val.mk ak ab an as' at' au ai am)).1 (oneV c 18 en (Val.mk ak ab an as' at' au ai am)).2 w)
 have HS := q_ hS
 have HVa := q_ ha
 have HRk := q_ hr
 obtain ⟨res, hres⟩ : ∃ res, oneV c 18 en (Val.mk ak ab an as' at' au ai am) = res := ⟨_, rfl⟩
 rw [hres]
 obtain ⟨p0, p1, p2, ps, px⟩ := zdn w (.cells #[.int .i64 18, .int .i64 lk, .bool lb, .int .i64 ln, .string ls, .string lt, .string lu, .slice lA ll lc, .slice lB lm ld, .string en, .slice eK eks.length ec, .slice eN ens.length ed] 30) (.cells #[.int .i64 ak, .bool ab, .int .i64 an, .string as', .string at', .string au, .slice aA ai.length ac, .slice aB am.length ad] 27) (.cells zeroCells.toArray 27)
 have HE0 := q_ p0
 have HA0 := q_ p1
 have HR0 := q_ p2
 have HX0 := q_ px
 clear p0 p1 p2 ps px
 have HSW := q_ (show ∀ b, S b → b < (((w.alloc (.cells #[.int .i64 18, .int .i64 lk, .bool lb, .int .i64 ln, .string ls, .string lt, .string lu, .slice lA ll lc, .slice lB lm ld, .string en, .slice eK eks.length ec, .slice eN ens.length ed] 30)).alloc (.cells #[.int .i64 ak, .bool ab, .int .i64 an, .string as', .string at', .string au, .slice aA ai.length ac, .slice aB am.length ad] 27)).alloc (.cells zeroCells.toArray 27)).heap.size from fun b hb => Nat.lt_of_lt_of_le (HS.out b hb) HX0.out.size)
 have Hva := q_ (Val.At.alike (Alike.of_ext HX0.out HS.out) _ _ HVa.out)
 have HD : Hid (za3 c 18 en (Val.mk ak ab an as' at' au ai am) = res) := q_ (by rw [← hres]; simp [oneV])
 have HXW := q_ (HX_e.out.ext HX0.out)
 clear hS hr ha he hev hek hen hres
 have HC := q_ (show Calls _ _ _ _ (zci S (za3 c 18 en (Val.mk ak ab an as' at' au ai am)).1 (za3 c 18 en (Val.mk ak ab an as' at' au ai am)).2 (((w.alloc (.cells #[.int .i64 18, .int .i64 lk, .bool lb, .int .i64 ln, .string ls, .string lt, .string lu, .slice lA ll lc, .slice lB lm ld, .string en, .slice eK eks.length ec, .slice eN ens.length ed] 30)).alloc (.cells #[.int .i64 ak, .bool ab, .int .i64 an, .string as', .string at', .string au, .slice aA ai.length ac, .slice aB am.length ad] 27)).alloc (.cells zeroCells.toArray 27))) from attributeE_ok S (Exp.mk 18 ev en eks ens) (Val.mk ak ab an as' at' au ai am) g (((w.alloc (.cells #[.int .i64 18, .int .i64 lk, .bool lb, .int .i64 ln, .string ls, .string lt, .string lu, .slice lA ll lc, .slice lB lm ld, .string en, .slice eK eks.length ec, .slice eN ens.length ed] 30)).alloc (.cells #[.int .i64 ak, .bool ab, .int .i64 an, .string as', .string at', .string au, .slice aA ai.length ac, .slice aB am.length ad] 27)).alloc (.cells zeroCells.toArray 27)) [.int .i64 18, .int .i64 lk, .bool lb, .int .i64 ln, .string ls, .string lt, .string lu, .slice lA ll lc, .slice lB lm ld, .string en, .slice eK eks.length ec, .slice eN ens.length ed] [.int .i64 ak, .bool ab, .int .i64 an, .string as', .string at', .string au, .slice aA ai.length ac, .slice aB am.length ad] HSW.out (HRk.out.ext HX0.out) HXW.out Hva.out)
 rw [HD.out] at HC
 go_enter Tryz.func62, Tryz.ntmps62
 go_wp2_with (first | refine zab rfl 30 _ rfl w.heap.size 0 rfl zar zao (cs := [.int .i64 18, .int .i64 lk, .bool lb, .int .i64 ln, .string ls, .string lt, .string lu, .slice lA ll lc, .slice lB lm ld, .string en, .slice eK eks.length ec, .slice eN ens.length ed]) rfl (zak HE0.out) ?_ | refine zab rfl 27 _ rfl (w.heap.size + 1) 0 rfl zae zaa (cs := [.int .i64 ak, .bool ab, .int .i64 an, .string as', .string at', .string au, .slice aA ai.length ac, .slice aB am.length ad]) rfl (zak HA0.out) ?_)
 refine HC.out.mono ?_
 rintro e9 w9 ⟨cv, rfl, hv, hx9⟩
 obtain ⟨z, ez⟩ := res
 obtain ⟨zk, zb, zn, zs, zt, zu, zi, zm⟩ := z
 obtain ⟨zA, zc, zB, zd, rfl⟩ := hv.opened
 have HX9 := q_ (HX0.out.trans hx9)
 have HR9 := q_ ((hx9.block _ (zaf HR0.out)).trans HR0.out)
 have HV9 : Hid (Val.At (fun b => S b ∨ Fresh (w.heap.size + 3) w9 b) w9 (Val.mk zk zb zn zs zt zu zi zm) [.int .i64 zk, .bool zb, .int .i64 zn, .string zs, .string zt, .string zu, .slice zA zi.length zc, .slice zB zm.length zd]) := q_ (hv.mono fun b hb => hb.imp id fun h => ⟨Nat.le_trans (by simp) h.1, h.2⟩)
 clear hv hx9
 go_wp2_with (refine zad rfl 27 _ _ rfl (w.heap.size + 2) 0 rfl [.int .i64 zk, .bool zb, .int .i64 zn, .string zs, .string zt, .string zu, .slice zA zi.length zc, .slice zB zm.length zd] rfl zaa rfl 27 zeroCells.toArray HR9.out (by simp [zeroCells]) HV9.out.one ?_)
 exact bodyPost_ret (v := .tuple #[.agg (show List Value from [.int .i64 zk, .bool zb, .int .i64 zn, .string zs, .string zt, .string zu, .slice zA zi.length zc, .slice zB zm.length zd]).toArray, .int .i64 ez]) (zah Tryz.results62 rfl zae zaa rfl (zai HR9.out (by simp [zeroCells]))) rfl ⟨[.int .i64 zk, .bool zb, .int .i64 zn, .string zs, .string zt, .string zu, .slice zA zi.length zc, .slice zB zm.length zd], rfl, ret_in HV9.out HS.out (by omega) (Ext.refl w9) (by omega) HX9.out.size _, HX9.out.setRow (by omega) _⟩
end Go.Proofs.YtebfoimbdljbmaaGreatDoor
