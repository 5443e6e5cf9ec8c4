/-
  What the program's evaluation leans on: truths, numbers, how many kids, how deep. The conditions: what is handed in lies in memory as it should.
-/
import Derived.Test.YtebfoimbdljbmaaGreatDoorExpMQ
import Derived.Test.YtebfoimbdljbmaaGreatDoorEvQ
import Derived.Test.YtebfoimbdljbmaaGreatDoorAnyFQ
namespace Go.Proofs.YtebfoimbdljbmaaGreatDoor
open Go.RowKit
open Lib renaming hid → q_
set_option maxRecDepth 100000
set_option maxHeartbeats 4000000
theorem zdr (w : World) (o0 o1 : Obj) : ((w.alloc o0).alloc o1).heap[w.heap.size]? = some o0 ∧ ((w.alloc o0).alloc o1).heap[w.heap.size + 1]? = some o1 ∧ ((w.alloc o0).alloc o1).heap.size = w.heap.size + 2 ∧ Ext w ((w.alloc o0).alloc o1) := by
 refine ⟨?_, ?_, by simp, ((Ext.refl w).alloc _).alloc _⟩ <;> (simp only [World.alloc, Array.getElem?_push, Array.size_push]; (repeat rw [if_neg (by omega)]); simp)
theorem zdn (w : World) (o0 o1 o2 : Obj) : (((w.alloc o0).alloc o1).alloc o2).heap[w.heap.size]? = some o0 ∧ (((w.alloc o0).alloc o1).alloc o2).heap[w.heap.size + 1]? = some o1 ∧ (((w.alloc o0).alloc o1).alloc o2).heap[w.heap.size + 2]? = some o2 ∧ (((w.alloc o0).alloc o1).alloc o2).heap.size = w.heap.size + 3 ∧ Ext w (((w.alloc o0).alloc o1).alloc o2) := by
 refine ⟨?_, ?_, ?_, by simp, (((Ext.refl w).alloc _).alloc _).alloc _⟩ <;> (simp only [World.alloc, Array.getElem?_push, Array.size_push]; (repeat rw [if_neg (by omega)]); simp)
theorem Val.At.opened {S : Nat → Prop} {w : World} {k : Int} {b : Bool} {n : Int} {s t u : ByteArray} {i : List Val} {m : List ByteArray} {cs : List Value} (h : Val.At S w (.mk k b n s t u i m) cs) :
  ∃ A c B d, cs = [.int .i64 k, .bool b, .int .i64 n, .string s, .string t, .string u, .slice A i.length c, .slice B m.length d] := by
 unfold Val.At at h
 obtain ⟨A, c, nv, rfl, _, _, _, B, d, rfl, _⟩ := h
 exact ⟨A, c, B, d, rfl⟩
theorem Val.At.bounds {S : Nat → Prop} {w : World} {k : Int} {b : Bool} {n : Int} {s t u : ByteArray} {i : List Val} {m : List ByteArray} {cs : List Value} (h : Val.At S w (.mk k b n s t u i m) cs) : I64 k ∧ I64 n ∧ s.size ≤ maxLen ∧ t.size ≤ maxLen ∧ u.size ≤ maxLen := by
 unfold Val.At at h
 obtain ⟨_, _, _, _, h, _⟩ := h
 exact h
theorem Val.At.setRow {T : Nat → Prop} {W : World} {x : Val} {cs : List Value} (h : Val.At T W x cs) {g : Nat} (hT : ∀ b, T b → b < W.heap.size ∧ b ≠ g) (rows : Array Value) : Val.At T (W.setRow g rows) x cs :=
 Val.At.alike (fun b hb => (GrownBy.setRow W g rows).block b (hT b hb).1 (fun e => by injection e with e; exact (hT b hb).2 e)) _ _ h
theorem ret_at {w w1 W : World} {c g : Nat} {x : Val} {cs : List Value} (h : Val.At (Fresh c w1) w1 x cs) (hx : Ext w1 W) (hg : g < c) (hc : w.heap.size ≤ c) (rows : Array Value) : Val.At (Fresh w.heap.size (W.setRow g rows)) (W.setRow g rows) x cs := by
 have h1 := Val.At.alike (Alike.of_ext hx fun b hb => hb.2) _ _ h
 refine (Val.At.setRow (g := g) h1 (fun b hb => ⟨Nat.lt_of_lt_of_le hb.2 hx.size, by have := hb.1; omega⟩) rows).mono fun b hb => ⟨by have := hb.1; omega, ?_⟩
 have h2 := hb.2
 have h3 := hx.size
 simp [World.setRow]
 omega
theorem ret_in {w w1 W : World} {S : Nat → Prop} {c g : Nat} {x : Val} {cs : List Value} (h : Val.At (fun b => S b ∨ Fresh c w1 b) w1 x cs) (hS : ∀ b, S b → b < w.heap.size) (hw : w.heap.size ≤ g) (hx : Ext w1 W) (hg : g < c) (hc : w.heap.size ≤ w1.heap.size) (rows : Array Value) :
  Val.At (fun b => S b ∨ Fresh w.heap.size (W.setRow g rows) b) (W.setRow g rows) x cs := by
 have hlt : ∀ b, (S b ∨ Fresh c w1 b) → b < w1.heap.size := fun b hb => hb.elim (fun h => Nat.lt_of_lt_of_le (hS b h) hc) fun h => h.2
 have h1 := Val.At.alike (Alike.of_ext hx hlt) _ _ h
 refine (Val.At.setRow (g := g) h1 (fun b hb => ⟨Nat.lt_of_lt_of_le (hlt b hb) hx.size, ?_⟩) rows).mono fun b hb => hb.imp id fun h => ⟨by have := h.1; omega, ?_⟩
 ·rcases hb with hb | hb
  ·have := hS b hb; omega
  ·have := hb.1; omega
 ·have h2 := h.2
  have h3 := hx.size
  simp [World.setRow]
  omega
def zbb (b : Bool) : List Value := [.int .i64 1, .bool b, .int .i64 0, .string ByteArray.empty, .string ByteArray.empty, .string ByteArray.empty, .slice none 0 0, .slice none 0 0]
def zeo (n : Int) : List Value := [.int .i64 2, .bool false, .int .i64 n, .string ByteArray.empty, .string ByteArray.empty, .string ByteArray.empty, .slice none 0 0, .slice none 0 0]
theorem zeh (S : Nat → Prop) (w : World) (b : Bool) : Val.At S w (.truth b) (zbb b) := by
 unfold Val.truth zbb Val.At
 refine ⟨none, 0, .slice none 0 0, rfl, ⟨by unfold I64; omega, by unfold I64; omega, by simp, by simp, by simp⟩, ⟨by simp, by simp, by simp⟩, by simp, ⟨none, 0, rfl, by simp, by simp, by simp, by simp, by simp⟩⟩
theorem whole_at (S : Nat → Prop) (w : World) (n : Int) (h : I64 n) : Val.At S w (.whole n) (zeo n) := by
 unfold Val.whole zeo Val.At
 refine ⟨none, 0, .slice none 0 0, rfl, ⟨by unfold I64; omega, h, by simp, by simp, by simp⟩, ⟨by simp, by simp, by simp⟩, by simp, ⟨none, 0, rfl, by simp, by simp, by simp, by simp, by simp⟩⟩
theorem zcn (b : Bool) : ∀ v ∈ zbb b, v.oneCell' = true := (zeh (fun _ => False) default b).one
theorem whole_one (n : Int) : ∀ v ∈ zeo n, v.oneCell' = true := by
 intro v hv
 simp [zeo] at hv
 rcases hv with rfl | rfl | rfl | rfl | rfl <;> rfl
def InX (w : World) (e : Exp) (cs : List Value) : Prop := Exp.At (fun b => b < w.heap.size) w e cs
theorem InX.ext {w w' : World} {e : Exp} {cs : List Value} (h : InX w e cs) (k : Ext w w') : InX w' e cs := Exp.At.mono (fun _ hb => Nat.lt_of_lt_of_le hb k.size) _ _ (Exp.At.alike (Alike.of_ext k fun _ h => h) _ _ h)
def InR (w : World) (q : Req) (cs : List Value) : Prop := Req.At (fun b => b < w.heap.size) w q cs
theorem InR.ext {w w' : World} {q : Req} {cs : List Value} (h : InR w q cs) (k : Ext w w') : InR w' q cs := (Req.At.alike h (Alike.of_ext k fun _ h => h)).mono fun _ hb => Nat.lt_of_lt_of_le hb k.size
def Sums (w : World) : Prop := ∃ m, w.cell? ⟨0, 0, none⟩ = some (.map (some m)) ∧ 0 < w.heap.size ∧ m < w.heap.size ∧ ∀ w', w'.heap[m]? = w.heap[m]? →
 (Instr.lookup 142 (.map (some m)) (.int .i64 11) false).run Tryz.prog w' = .ok (.func (.func 250) #[] #[]) w' ∧
 (Instr.lookup 142 (.map (some m)) (.int .i64 12) false).run Tryz.prog w' = .ok (.func (.func 251) #[] #[]) w' ∧
 (Instr.lookup 142 (.map (some m)) (.int .i64 13) false).run Tryz.prog w' = .ok (.func (.func 252) #[] #[]) w'
theorem Sums.ext {w w' : World} (h : Sums w) (k : Ext w w') : Sums w' := by
 obtain ⟨m, h1, h2, h3, h4⟩ := h
 exact ⟨m, k.cell h1, Nat.lt_of_lt_of_le h2 k.size, Nat.lt_of_lt_of_le h3 k.size, fun w2 hw => h4 w2 (hw.trans (k.block m h3))⟩
def Rk (q : Req) (c : List Ent) (w : World) (g : Nat) : Prop := ∃ qc pv, qc.length = 14 ∧ w.heap[g]? = some (.cells (qc ++ [pv]).toArray 80 (0, 0)) ∧ InR w q qc ∧ StoreV w pv c ∧ q.ctx.dep ≤ 1000000 ∧ Sums w
theorem Rk.ext {q : Req} {c : List Ent} {w w' : World} {g : Nat} (h : Rk q c w g) (k : Ext w w') : Rk q c w' g := by
 obtain ⟨qc, pv, h0, h1, h2, h3, h4, h5⟩ := h
 exact ⟨qc, pv, h0, (k.block g (zaf h1)).trans h1, h2.ext k, h3.ext k, h4, h5.ext k⟩
mutual
def Exp.ops (A : Int → Prop) : Exp → Prop
 | .mk op _ _ kids _ => A op ∧ Exp.opsL A kids
def Exp.opsL (A : Int → Prop) : List Exp → Prop
 | [] => True
 | e :: r => Exp.ops A e ∧ Exp.opsL A r
end
theorem Exp.opsL_iff {A : Int → Prop} : ∀ {l : List Exp}, Exp.opsL A l ↔ ∀ x ∈ l, x.ops A
 | [] => by simp [Exp.opsL]
 | y :: r => by simp [Exp.opsL, Exp.opsL_iff (l := r)]
def Exp.fine (A : Int → Prop) (e : Exp) : Prop := e.lits 1000000 ∧ e.ops A
theorem Exp.fine_iff {A : Int → Prop} {e : Exp} : e.fine A ↔ A e.op ∧ e.v.dep ≤ 1000000 ∧ ∀ x ∈ e.kids, x.fine A := by
 obtain ⟨o, v, n, k, l⟩ := e
 unfold Exp.fine
 rw [Exp.lits_def, Exp.ops, Exp.opsL_iff]
 exact ⟨fun h => ⟨h.2.1, h.1.1, fun x hx => ⟨h.1.2 x hx, h.2.2 x hx⟩⟩, fun h => ⟨⟨h.2.1, fun x hx => (h.2.2 x hx).1⟩, h.1, fun x hx => (h.2.2 x hx).2⟩⟩
theorem Exp.deps_take_succ : ∀ {l : List Exp} {k : Nat} {x : Exp}, l[k]? = some x → Exp.deps (l.take (k + 1)) = max (Exp.deps (l.take k)) x.dep
 | [], _, _, h => by simp at h
 | y :: r, 0, x, h => by simp at h; subst h; simp [Exp.deps]
 | y :: r, k + 1, x, h => by
  have := Exp.deps_take_succ (l := r) (k := k) (x := x) (by simpa using h)
  simp only [List.take_succ_cons, Exp.deps] at this ⊢
  omega
def EvOf (A : Int → Prop) (q : Req) (c : List Ent) (n : Nat) : Prop := ∀ (e : Exp) (g : Nat) (w : World) (cs : List Value), SizeOf.sizeOf e ≤ n → e.fine A → Rk q c w g → InX w e cs →
 Calls Tryz.prog 35 #[.pointer (some ⟨g, 0, none⟩), .agg cs.toArray] w (zb0 (e.ev q c).1 (e.ev q c).2 w)
theorem truthE_ok (b : Bool) (w : World) : Calls Tryz.prog 90 #[.bool b] w fun e w' => e = .returned (.agg (zbb b).toArray) ∧ Ext w w' := by
 have HR := q_ (heap_alloc_new w (.cells zeroCells.toArray 27))
 have HX := q_ ((Ext.refl w).alloc (.cells zeroCells.toArray 27))
 go_enter Tryz.func90, Tryz.ntmps90
 go_wp2_with (refine zad rfl 27 _ _ rfl w.heap.size 0 rfl (zbb b) rfl zaa rfl 27 zeroCells.toArray HR.out (by simp [zeroCells, zbb]) (zcn b) ?_)
 exact bodyPost_ret (v := .agg (zbb b).toArray) (zdb Tryz.results90 rfl zae zaa rfl (zai HR.out (by simp [zeroCells, zbb]))) rfl ⟨rfl, HX.out.setRow (Nat.le_refl _) _⟩
theorem numberE_ok (n : Int) (w : World) : Calls Tryz.prog 92 #[.int .i64 n] w fun e w' => e = .returned (.agg (zeo n).toArray) ∧ Ext w w' := by
 have HR := q_ (heap_alloc_new w (.cells zeroCells.toArray 27))
 have HX := q_ ((Ext.refl w).alloc (.cells zeroCells.toArray 27))
 go_enter Tryz.func92, Tryz.ntmps92
 go_wp2_with (refine zad rfl 27 _ _ rfl w.heap.size 0 rfl (zeo n) rfl zaa rfl 27 zeroCells.toArray HR.out (by simp [zeroCells, zeo]) (whole_one n) ?_)
 exact bodyPost_ret (v := .agg (zeo n).toArray) (zdb Tryz.results92 rfl zae zaa rfl (zai HR.out (by simp [zeroCells, zeo]))) rfl ⟨rfl, HX.out.setRow (Nat.le_refl _) _⟩
theorem zek (op : Int) (w : World) : Calls Tryz.prog 56 #[.int .i64 op] w fun e w' => e = .returned (.int .i64 (zb3 op)) ∧ w = w' := by
 by_cases h1 : op < 1
 ·
  have ha : zb3 op = 4 := by unfold zb3; (repeat' split) <;> omega
  have HA := q_ ha
  clear ha
  go_enter Tryz.func56, Tryz.ntmps56
  go_wp2_with fail
  go_ret
  exact ⟨zan HA.out.symm, rfl⟩
 by_cases h2 : 23 < op
 ·
  have ha : zb3 op = 4 := by unfold zb3; (repeat' split) <;> omega
  have HA := q_ ha
  clear ha
  go_enter Tryz.func56, Tryz.ntmps56
  go_wp2_with fail
  go_ret
  exact ⟨zan HA.out.symm, rfl⟩
 by_cases h3 : op ≤ 3
 ·
  have ha : zb3 op = 0 := by unfold zb3; (repeat' split) <;> omega
  have HA := q_ ha
  clear ha
  go_enter Tryz.func56, Tryz.ntmps56
  go_wp2_with fail
  go_ret
  exact ⟨zan HA.out.symm, rfl⟩
 have t3 : decide (op ≤ 3) = false := by simpa using h3
 by_cases g6 : op = 6
 ·subst g6
  have HA := q_ (show zb3 6 = 1 from by decide)
  go_enter Tryz.func56, Tryz.ntmps56
  go_wp2_with fail
  go_ret
  exact ⟨zan HA.out.symm, rfl⟩
 have e6 : (op == 6) = false := by simpa using g6
 by_cases g14 : op = 14
 ·subst g14
  have HA := q_ (show zb3 14 = 1 from by decide)
  go_enter Tryz.func56, Tryz.ntmps56
  go_wp2_with fail
  go_ret
  exact ⟨zan HA.out.symm, rfl⟩
 have e14 : (op == 14) = false := by simpa using g14
 by_cases g16 : 16 ≤ op ∧ op ≤ 18
 ·obtain ⟨i1, i2⟩ := g16
  have ha : zb3 op = 1 := by unfold zb3; (repeat' split) <;> omega
  have HA := q_ ha
  clear ha g6 g14
  go_enter Tryz.func56, Tryz.ntmps56
  go_wp2_with fail
  go_ret
  exact ⟨zan HA.out.symm, rfl⟩
 by_cases g7 : op = 7
 ·subst g7
  have HA := q_ (show zb3 7 = 3 from by decide)
  clear g16
  go_enter Tryz.func56, Tryz.ntmps56
  go_wp2_with fail
  go_ret
  exact ⟨zan HA.out.symm, rfl⟩
 have e7 : (op == 7) = false := by simpa using g7
 by_cases g19 : op = 19
 ·subst g19
  have HA := q_ (show zb3 19 = -1 from by decide)
  clear g16
  go_enter Tryz.func56, Tryz.ntmps56
  go_wp2_with fail
  go_ret
  exact ⟨zan HA.out.symm, rfl⟩
 have e19 : (op == 19) = false := by simpa using g19
 by_cases g20 : op = 20
 ·subst g20
  have HA := q_ (show zb3 20 = -1 from by decide)
  clear g16
  go_enter Tryz.func56, Tryz.ntmps56
  go_wp2_with fail
  go_ret
  exact ⟨zan HA.out.symm, rfl⟩
 have e20 : (op == 20) = false := by simpa using g20
 have ha : zb3 op = 2 := by unfold zb3; (repeat' split) <;> omega
 have HA := q_ ha
 clear ha g6 g14 g7 g19 g20
 by_cases g : 16 ≤ op
 ·have g' : ¬ op ≤ 18 := fun h => g16 ⟨g, h⟩
  clear g16
  go_enter Tryz.func56, Tryz.ntmps56
  go_wp2_with fail
  go_ret
  exact ⟨zan HA.out.symm, rfl⟩
 ·clear g16
  go_enter Tryz.func56, Tryz.ntmps56
  go_wp2_with fail
  go_ret
  exact ⟨zan HA.out.symm, rfl⟩
theorem depthE_ok (n : Nat) : ∀ (e : Exp) (w : World) (cs : List Value), SizeOf.sizeOf e ≤ n → e.dep ≤ 1000000 → InX w e cs →
  Calls Tryz.prog 34 #[.agg cs.toArray] w fun r w' => r = .returned (.int .i64 e.dep) ∧ Ext w w' := by
 induction n with
 | zero => intro e; cases e; simp
 | succ n ih =>
  intro e w cs hn hd he
  obtain ⟨eo, ev, en, eks, ens⟩ := e
  obtain ⟨lk, lb, ln, ls, lt, lu, lA, ll, lc, lB, lm, ld, eK, ec, eN, ed, hcs, _, hev, hek, hen⟩ := Exp.At.shape he
  obtain rfl : cs = [.int .i64 eo, .int .i64 lk, .bool lb, .int .i64 ln, .string ls, .string lt, .string lu, .slice lA ll lc, .slice lB lm ld, .string en, .slice eK eks.length ec, .slice eN ens.length ed] := hcs
  have hev : InW w ev [.int .i64 lk, .bool lb, .int .i64 ln, .string ls, .string lt, .string lu, .slice lA ll lc, .slice lB lm ld] := hev
  have hek : expR.RowsAt (fun b => b < w.heap.size) w eks (.slice eK eks.length ec) := hek
  have hen : StrsAt (fun b => b < w.heap.size) w ens (.slice eN ens.length ed) := hen
  obtain ⟨_, _, eq0, ⟨hk0, hk1, hk2⟩, hkr⟩ := hek
  injection eq0 with eq1 eq2 eq3
  subst eq1 eq3
  obtain ⟨_, _, eq0, hn0, hn1, hn2, _⟩ := id hen
  injection eq0 with eq1 eq4 eq3
  subst eq1 eq3
  rw [zaq] at hk0 hn0
  rw [zaj] at hk2 hn2
  have HK := q_ hkr
  clear eq2 eq4 hkr
  have hd : Exp.deps eks + 1 ≤ 1000000 := by simpa [Exp.dep] using hd
  have HDp : Hid ((Exp.mk eo ev en eks ens).dep = Exp.deps eks + 1) := q_ (by simp [Exp.dep])
  generalize (Exp.mk eo ev en eks ens).dep = res at *
  have Hn := q_ hn
  have IH := q_ ih
  have HX0 := q_ ((Ext.refl w).alloc (.cells #[.int .i64 eo, .int .i64 lk, .bool lb, .int .i64 ln, .string ls, .string lt, .string lu, .slice lA ll lc, .slice lB lm ld, .string en, .slice eK eks.length ec, .slice eN ens.length ed] 30))
  have HB0 := q_ (heap_alloc_new w (.cells #[.int .i64 eo, .int .i64 lk, .bool lb, .int .i64 ln, .string ls, .string lt, .string lu, .slice lA ll lc, .slice lB lm ld, .string en, .slice eK eks.length ec, .slice eN ens.length ed] 30))
  clear he hev hen hn ih
  go_enter Tryz.func34, Tryz.ntmps34
  go_wp2_with fail
  go_loopw [3, 9] (fun m i' wr => ∃ (j z : Nat), j ≤ eks.length ∧ i' = .int .i64 j ∧ m = .int .i64 z ∧ z ≤ Exp.deps eks ∧ Hid (z = Exp.deps (eks.take j)) ∧ Hid (Ext w wr) ∧ Hid (wr.heap[w.heap.size]? = some (.cells #[.int .i64 eo, .int .i64 lk, .bool lb, .int .i64 ln, .string ls, .string lt, .string lu, .slice lA ll lc, .slice lB lm ld, .string en, .slice eK eks.length ec, .slice eN ens.length ed] 30 (0, 0)))) (fun _ i' _ => eks.length - (intOf i').toNat)
  case atStart => exact ⟨0, 0, Nat.zero_le _, rfl, rfl, Nat.zero_le _, q_ (by simp [Exp.deps]), HX0, HB0⟩
  case round =>
   clear HX0 HB0
   obtain ⟨j, z, hj, rfl, rfl, hz, HZ, HX, HB⟩ := hrel
   by_cases hlt : j < eks.length
   ·obtain ⟨b, o, eA, hSb, hrow⟩ := HK.out (by omega)
    subst eA
    obtain ⟨x, hx⟩ : ∃ x, eks[j]? = some x := ⟨_, List.getElem?_eq_getElem hlt⟩
    obtain ⟨cx, hcx, hxa⟩ := hrow j x hx
    obtain ⟨z1, z2, z3, z4, z5, z6, z7, z8, z9, za, zb, zc, zd, ze, zf, zg, hcs, _⟩ := Exp.At.shape hxa
    subst hcs
    have hcx : CellsAt w b (o + j * 12) [.int .i64 x.op, .int .i64 z1, .bool z2, .int .i64 z3, .string z4, .string z5, .string z6, .slice z7 z8 z9, .slice za zb zc, .string x.name, .slice zd x.kids.length ze, .slice zf x.names.length zg] := hcx
    have Hcx := q_ (hcx.alike hSb (Alike.of_ext HX.out fun _ h => h))
    have Hxa := q_ (InX.ext (e := x) hxa (HX.out.alloc (.cells #[.int .i64 x.op, .int .i64 z1, .bool z2, .int .i64 z3, .string z4, .string z5, .string z6, .slice z7 z8 z9, .slice za zb zc, .string x.name, .slice zd x.kids.length ze, .slice zf x.names.length zg] 30)))
    have Hsz := q_ (show SizeOf.sizeOf x ≤ n by have := Hn.out; have := Exp.size_get hx; simp at *; omega)
    have Htk := q_ (show Exp.deps (eks.take (j + 1)) = max (Exp.deps (eks.take j)) x.dep from Exp.deps_take_succ hx)
    have hxd : x.dep ≤ Exp.deps eks := Exp.deps_mem (List.mem_of_getElem? hx)
    have HB1 := q_ ((heap_alloc_old wr (.cells #[.int .i64 x.op, .int .i64 z1, .bool z2, .int .i64 z3, .string z4, .string z5, .string z6, .slice z7 z8 z9, .slice za zb zc, .string x.name, .slice zd x.kids.length ze, .slice zf x.names.length zg] 30) (zaf HB.out)).trans HB.out)
    have HX1 := q_ (HX.out.alloc (.cells #[.int .i64 x.op, .int .i64 z1, .bool z2, .int .i64 z3, .string z4, .string z5, .string z6, .slice z7 z8 z9, .slice za zb zc, .string x.name, .slice zd x.kids.length ze, .slice zf x.names.length zg] 30))
    clear hcx hrow hSb hxa hx
    go_wp2_with (first | refine zab rfl 30 _ rfl b (o + j * 12) rfl zar zao rfl Hcx.out ?_)
    refine (IH.out x _ [.int .i64 x.op, .int .i64 z1, .bool z2, .int .i64 z3, .string z4, .string z5, .string z6, .slice z7 z8 z9, .slice za zb zc, .string x.name, .slice zd x.kids.length ze, .slice zf x.names.length zg] Hsz.out (by omega) Hxa.out).mono ?_
    rintro r w2 ⟨rfl, hx2⟩
    have HX2 := q_ (HX1.out.trans hx2)
    have HB2 := q_ ((hx2.block _ (zaf HB1.out)).trans HB1.out)
    clear hx2 HX1 HB1
    by_cases hm : z < x.dep
    ·go_wp2_with fail
     go_roundw
     case rel => exact ⟨j + 1, x.dep, by omega, by go_num, by go_num, hxd, q_ (by rw [Htk.out, ← HZ.out]; omega), HX2, HB2⟩
     case measure => simp [intOf]; omega
    ·go_wp2_with fail
     go_roundw
     case rel => exact ⟨j + 1, z, by omega, by go_num, by go_num, hz, q_ (by rw [Htk.out, ← HZ.out]; omega), HX2, HB2⟩
     case measure => simp [intOf]; omega
   ·have hje : j = eks.length := by omega
    subst hje
    have HZ' := q_ (show z = Exp.deps eks by have := HZ.out; rwa [List.take_length] at this)
    clear HZ
    go_wp2_with fail
    go_ret
    exact ⟨zan (by rw [HDp.out, ← HZ'.out]; simp), HX.out⟩
end Go.Proofs.YtebfoimbdljbmaaGreatDoor
