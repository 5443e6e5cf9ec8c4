/-
  What asks for two values, as the program's evaluation has it. The conditions: what is handed in lies in memory as it should.
-/
import Derived.Test.YtebfoimbdljbmaaGreatDoorEvIQ
namespace Go.Proofs.YtebfoimbdljbmaaGreatDoor
open Go.RowKit
open Lib renaming hid → q_
set_option maxRecDepth 100000
set_option maxHeartbeats 4000000
theorem wpList_load_lone {P : Program} {ops : Array Oper} {rest : List Oper} {o : Oper} {a : Act} {w : World} {Q : Exit → Act → World → Prop} (hgd : o.guard = none) (ty : TypeId) (x : Operand) (ho : o.op = .load ty x)
  (b off : Nat) (hx : a.eval x = .pointer (some ⟨b, off, none⟩)) (hA : ∀ w, (isAgg ty).run P w = .ok false w) (v : Value) (h : w.cell? ⟨b, off, none⟩ = some v) (hk : wpList P ops Q rest (a.put o.dst v) w) : wpList P ops Q (o :: rest) a w :=
 wpList_plain hgd fun K hK => by
  unfold Oper.wp execOp
  simp only [ho, hx, Instr.loadAt, Instr.sureAddr, loadVar, Sem.run_bind, Sem.run_pure, Result.andThen_ok, hA, Bool.false_eq_true, if_false, run_load, h]
  exact hK _ _ hk
theorem wpList_lookup_known {P : Program} {ops : Array Oper} {rest : List Oper} {o : Oper} {a : Act} {w : World} {Q : Exit → Act → World → Prop} (hgd : o.guard = none) (ty : TypeId) (x i : Operand) (ho : o.op = .lookup ty x i false)
  (mv kv v : Value) (hx : a.eval x = mv) (hi : a.eval i = kv) (h : (Instr.lookup ty mv kv false).run P w = .ok v w) (hk : wpList P ops Q rest (a.put o.dst v) w) : wpList P ops Q (o :: rest) a w :=
 wpList_plain hgd fun K hK => by
  unfold Oper.wp execOp
  simp only [ho, hx, hi, Sem.run_bind, Sem.run_pure, Result.andThen_ok, h]
  exact hK _ _ hk
theorem Tryz.aggMap : ∀ w, (isAgg 142).run Tryz.prog w = .ok false w := fun _ => by kernel_rfl
theorem Tryz.enter_add : ∀ args w, (callFunc 250 args).run Tryz.prog w = .ok (.enter 250 args) w := fun _ _ => by kernel_rfl
theorem two_11 {q : Req} {c : List Ent} (S : Nat → Prop) (a b : Val) (g : Nat) (w : World) (ca cb : List Value) (hS : ∀ b, S b → b < w.heap.size) (hr : Rk q c w g) (ha : Val.At S w a ca) (hb : Val.At S w b cb) :
  Calls Tryz.prog 63 #[.pointer (some ⟨g, 0, none⟩), .int .i64 11, .agg ca.toArray, .agg cb.toArray] w (zci S (twoV c 11 a b).1 (twoV c 11 a b).2 w) := by
 obtain ⟨ak, ab, an, as', at', au, ai, am⟩ := a
 obtain ⟨aA, ac, aB, ad, rfl⟩ := ha.opened
 obtain ⟨bk, bb, bn, bs, bt, bu, bi, bm⟩ := b
 obtain ⟨bA, bc, bB, bd, rfl⟩ := hb.opened
 have HS := q_ hS
 have HVa := q_ ha
 have HVb := q_ hb
 have HRk := q_ hr
 obtain ⟨res, hres⟩ : ∃ res, twoV c 11 (Val.mk ak ab an as' at' au ai am) (Val.mk bk bb bn bs bt bu bi bm) = res := ⟨_, rfl⟩
 rw [hres]
 by_cases ha2 : ak = 2
 case neg =>
  have ea : (ak != 2) = true := by simpa using ha2
  have hh : res = (.zero, 30) := by rw [← hres]; simp [twoV, Val.kind, ha2, no]
  subst hh
  clear hres ha2
  obtain ⟨p0, p1, p2, ps, px⟩ := zdn w (.cells #[.int .i64 ak, .bool ab, .int .i64 an, .string as', .string at', .string au, .slice aA ai.length ac, .slice aB am.length ad] 27) (.cells #[.int .i64 bk, .bool bb, .int .i64 bn, .string bs, .string bt, .string bu, .slice bA bi.length bc, .slice bB bm.length bd] 27) (.cells zeroCells.toArray 27)
  have HA0 := q_ p0
  have HB0 := q_ p1
  have HR0 := q_ p2
  have HX0 := q_ px
  clear p0 p1 p2 ps px
  have HSW := q_ (show ∀ b, S b → b < (((w.alloc (.cells #[.int .i64 ak, .bool ab, .int .i64 an, .string as', .string at', .string au, .slice aA ai.length ac, .slice aB am.length ad] 27)).alloc (.cells #[.int .i64 bk, .bool bb, .int .i64 bn, .string bs, .string bt, .string bu, .slice bA bi.length bc, .slice bB bm.length bd] 27)).alloc (.cells zeroCells.toArray 27)).heap.size from fun b hb => Nat.lt_of_lt_of_le (HS.out b hb) HX0.out.size)
  have Hva := q_ (Val.At.alike (Alike.of_ext HX0.out HS.out) _ _ HVa.out)
  have Hvb := q_ (Val.At.alike (Alike.of_ext HX0.out HS.out) _ _ HVb.out)
  clear hS hr ha hb
  go_enter Tryz.func63, Tryz.ntmps63
  go_wp2_with (refine zad rfl 27 _ _ rfl (w.heap.size + 2) 0 rfl zeroCells rfl zaa rfl 27 zeroCells.toArray HR0.out (by simp [zeroCells]) za2 ?_)
  exact bodyPost_ret (v := .tuple #[.agg (show List Value from zeroCells).toArray, .int .i64 30]) (zah Tryz.results63 rfl zae zaa rfl (zai HR0.out (by simp [zeroCells]))) rfl ⟨zeroCells, rfl, Val.zero_at _ _, HX0.out.setRow (by omega) _⟩
 subst ha2
 by_cases hb2 : bk = 2
 case neg =>
  have eb : (bk != 2) = true := by simpa using hb2
  have hh : res = (.zero, 30) := by rw [← hres]; simp [twoV, Val.kind, hb2, no]
  subst hh
  clear hres hb2
  obtain ⟨p0, p1, p2, ps, px⟩ := zdn w (.cells #[.int .i64 2, .bool ab, .int .i64 an, .string as', .string at', .string au, .slice aA ai.length ac, .slice aB am.length ad] 27) (.cells #[.int .i64 bk, .bool bb, .int .i64 bn, .string bs, .string bt, .string bu, .slice bA bi.length bc, .slice bB bm.length bd] 27) (.cells zeroCells.toArray 27)
  have HA0 := q_ p0
  have HB0 := q_ p1
  have HR0 := q_ p2
  have HX0 := q_ px
  clear p0 p1 p2 ps px
  have HSW := q_ (show ∀ b, S b → b < (((w.alloc (.cells #[.int .i64 2, .bool ab, .int .i64 an, .string as', .string at', .string au, .slice aA ai.length ac, .slice aB am.length ad] 27)).alloc (.cells #[.int .i64 bk, .bool bb, .int .i64 bn, .string bs, .string bt, .string bu, .slice bA bi.length bc, .slice bB bm.length bd] 27)).alloc (.cells zeroCells.toArray 27)).heap.size from fun b hb => Nat.lt_of_lt_of_le (HS.out b hb) HX0.out.size)
  have Hva := q_ (Val.At.alike (Alike.of_ext HX0.out HS.out) _ _ HVa.out)
  have Hvb := q_ (Val.At.alike (Alike.of_ext HX0.out HS.out) _ _ HVb.out)
  clear hS hr ha hb
  go_enter Tryz.func63, Tryz.ntmps63
  go_wp2_with (refine zad rfl 27 _ _ rfl (w.heap.size + 2) 0 rfl zeroCells rfl zaa rfl 27 zeroCells.toArray HR0.out (by simp [zeroCells]) za2 ?_)
  exact bodyPost_ret (v := .tuple #[.agg (show List Value from zeroCells).toArray, .int .i64 30]) (zah Tryz.results63 rfl zae zaa rfl (zai HR0.out (by simp [zeroCells]))) rfl ⟨zeroCells, rfl, Val.zero_at _ _, HX0.out.setRow (by omega) _⟩
 subst hb2
 obtain ⟨p0, p1, p2, ps, px⟩ := zdn w (.cells #[.int .i64 2, .bool ab, .int .i64 an, .string as', .string at', .string au, .slice aA ai.length ac, .slice aB am.length ad] 27) (.cells #[.int .i64 2, .bool bb, .int .i64 bn, .string bs, .string bt, .string bu, .slice bA bi.length bc, .slice bB bm.length bd] 27) (.cells zeroCells.toArray 27)
 have HA0 := q_ p0
 have HB0 := q_ p1
 have HR0 := q_ p2
 have HX0 := q_ px
 clear p0 p1 p2 ps px
 have HSW := q_ (show ∀ b, S b → b < (((w.alloc (.cells #[.int .i64 2, .bool ab, .int .i64 an, .string as', .string at', .string au, .slice aA ai.length ac, .slice aB am.length ad] 27)).alloc (.cells #[.int .i64 2, .bool bb, .int .i64 bn, .string bs, .string bt, .string bu, .slice bA bi.length bc, .slice bB bm.length bd] 27)).alloc (.cells zeroCells.toArray 27)).heap.size from fun b hb => Nat.lt_of_lt_of_le (HS.out b hb) HX0.out.size)
 have Hva := q_ (Val.At.alike (Alike.of_ext HX0.out HS.out) _ _ HVa.out)
 have Hvb := q_ (Val.At.alike (Alike.of_ext HX0.out HS.out) _ _ HVb.out)
 obtain ⟨_, _, _, _, _, _, _, hsum⟩ := hr.ext HX0.out
 obtain ⟨m, hm0, hm1, hm2, hm3⟩ := hsum
 have hl := (hm3 _ rfl).1
 have hc := add_ok an bn ha.bounds.2.1 hb.bounds.2.1 (((w.alloc (.cells #[.int .i64 2, .bool ab, .int .i64 an, .string as', .string at', .string au, .slice aA ai.length ac, .slice aB am.length ad] 27)).alloc (.cells #[.int .i64 2, .bool bb, .int .i64 bn, .string bs, .string bt, .string bu, .slice bA bi.length bc, .slice bB bm.length bd] 27)).alloc (.cells zeroCells.toArray 27))
 unfold FitAns at hc
 obtain ⟨⟨n, ne⟩, hn⟩ : ∃ r, fitN (an + bn) = r := ⟨_, rfl⟩
 rw [hn] at hc
 have HC := q_ hc
 have HN := q_ hn
 have he := Tryz.enter_add
 have HD : Hid (res = fitI (an + bn)) := q_ (by rw [← hres]; simp [twoV, Val.kind, Val.num])
 clear hS hr ha hb hres hc hn hm3
 have Hm0 := q_ hm0
 have HL := q_ hl
 clear hm0 hl
 go_enter Tryz.func63, Tryz.ntmps63
 go_wp2_with (first | refine wpList_load_lone rfl 142 _ rfl 0 0 rfl Tryz.aggMap _ Hm0.out ?_ | refine wpList_lookup_known rfl 142 _ _ rfl _ _ _ rfl rfl HL.out ?_)
 refine HC.out.mono ?_
 rintro e1 w1 ⟨rfl, rfl⟩
 clear he
 by_cases hf : -9223372036854775808 ≤ an + bn ∧ an + bn ≤ 9223372036854775807
 case neg =>
  obtain ⟨rfl, rfl⟩ : n = 0 ∧ ne = 14 := by have := HN.out; unfold fitN at this; rw [if_neg hf] at this; exact ⟨by injection this with h1 h2; exact h1.symm, by injection this with h1 h2; exact h2.symm⟩
  have hh : res = (.zero, 14) := by rw [HD.out]; unfold fitI; rw [if_neg hf]; rfl
  subst hh
  clear hf
  go_wp2_with (refine zad rfl 27 _ _ rfl (w.heap.size + 2) 0 rfl zeroCells rfl zaa rfl 27 zeroCells.toArray HR0.out (by simp [zeroCells]) za2 ?_)
  exact bodyPost_ret (v := .tuple #[.agg (show List Value from zeroCells).toArray, .int .i64 14]) (zah Tryz.results63 rfl zae zaa rfl (zai HR0.out (by simp [zeroCells]))) rfl ⟨zeroCells, rfl, Val.zero_at _ _, HX0.out.setRow (by omega) _⟩
 obtain ⟨hn0, rfl⟩ : an + bn = n ∧ ne = 0 := by have := HN.out; unfold fitN at this; rw [if_pos hf] at this; exact ⟨by injection this with h1 h2, by injection this with h1 h2; exact h2.symm⟩
 have hh : res = (.whole n, 0) := by rw [HD.out]; unfold fitI; rw [if_pos hf, hn0]
 have HI : Hid (I64 n) := q_ (by rw [← hn0]; exact hf)
 subst hh
 clear hf hn0
 go_wp2_with fail
 refine (numberE_ok n _).mono ?_
 rintro et wt ⟨rfl, hxt⟩
 have HXt := q_ hxt
 have HRt := q_ ((hxt.block _ (zaf HR0.out)).trans HR0.out)
 clear hxt
 go_wp2_with (refine zad rfl 27 _ _ rfl (w.heap.size + 2) 0 rfl (zeo (n)) rfl zaa rfl 27 zeroCells.toArray HRt.out (by simp [zeroCells, zeo]) (whole_one (n)) ?_)
 exact bodyPost_ret (v := .tuple #[.agg (show List Value from (zeo (n))).toArray, .int .i64 0]) (zah Tryz.results63 rfl zae zaa rfl (zai HRt.out (by simp [zeroCells, zeo]))) rfl ⟨(zeo (n)), rfl, whole_at _ _ _ HI.out, (HX0.out.trans HXt.out).setRow (by omega) _⟩
end Go.Proofs.YtebfoimbdljbmaaGreatDoor
