/-
  A literal, as the laws make it. The conditions: none.
-/
import Derived.Test.YtebfoimbdljbmaaGreatDoorEvHQ
import Derived.Test.YtebfoimbdljbmaaGreatDoorEvQ
import Derived.Test.YtebfoimbdljbmaaGreatDoorGf
namespace Go.Proofs.YtebfoimbdljbmaaGreatDoor
open Go.RowKit
open Lib renaming hid → q_
set_option maxRecDepth 100000
set_option maxHeartbeats 4000000
def zeroExp : List Value := [.int .i64 0, .int .i64 0, .bool false, .int .i64 0, .string ByteArray.empty, .string ByteArray.empty, .string ByteArray.empty, .slice none 0 0, .slice none 0 0, .string ByteArray.empty, .slice none 0 0, .slice none 0 0]
theorem lit_ok (lk : Int) (lb : Bool) (ln : Int) (ls lt lu : ByteArray) (lA : Option Addr) (ll lc : Nat) (lB : Option Addr) (lm ld : Nat) (w : World) :
  Calls Tryz.prog 12 #[.agg ([.int .i64 lk, .bool lb, .int .i64 ln, .string ls, .string lt, .string lu, .slice lA ll lc, .slice lB lm ld] : List Value).toArray] w fun e w' => e = .returned (.agg ([.int .i64 1, .int .i64 lk, .bool lb, .int .i64 ln, .string ls, .string lt, .string lu, .slice lA ll lc, .slice lB lm ld, .string ByteArray.empty, .slice none 0 0, .slice none 0 0] : List Value).toArray) ∧ Ext w w' := by
 have HV0 := q_ ((heap_alloc_old (w.alloc (.cells #[.int .i64 lk, .bool lb, .int .i64 ln, .string ls, .string lt, .string lu, .slice lA ll lc, .slice lB lm ld] 27)) (.cells zeroExp.toArray 30) (zaf (heap_alloc_new w (.cells #[.int .i64 lk, .bool lb, .int .i64 ln, .string ls, .string lt, .string lu, .slice lA ll lc, .slice lB lm ld] 27)))).trans (heap_alloc_new w (.cells #[.int .i64 lk, .bool lb, .int .i64 ln, .string ls, .string lt, .string lu, .slice lA ll lc, .slice lB lm ld] 27)))
 go_enter Tryz.func12, Tryz.ntmps12
 go_wp2_with (first | (with_reducible refine zaw ?_; refine zab rfl 27 _ rfl w.heap.size 0 rfl zae zaa (cs := [.int .i64 lk, .bool lb, .int .i64 ln, .string ls, .string lt, .string lu, .slice lA ll lc, .slice lB lm ld]) rfl (zak HV0.out) ?_))
 exact bodyPost_ret (v := .agg ([.int .i64 1, .int .i64 lk, .bool lb, .int .i64 ln, .string ls, .string lt, .string lu, .slice lA ll lc, .slice lB lm ld, .string ByteArray.empty, .slice none 0 0, .slice none 0 0] : List Value).toArray) (zdb Tryz.results12 rfl zar zao rfl (zak (zba (by simp) _))) rfl ⟨rfl, ((Ext.refl w).alloc _).alloc _⟩
end Go.Proofs.YtebfoimbdljbmaaGreatDoor

/-
  What the statements' own expressions come to: numbers, sets of numbers, choices. No program in sight. The conditions: none (lemmas).
-/
namespace Go.Proofs.YtebfoimbdljbmaaGreatDoor
open Go.RowKit
def Exp.lit (v : Val) : Exp := .mk 1 v ByteArray.empty [] []
def Exp.of (op : Int) (kids : List Exp) : Exp := .mk op .zero ByteArray.empty kids []
theorem canon_whole (n : Int) : (Val.whole n).canon = (.whole n, 0) := by
 unfold Val.canon
 rw [if_neg (by unfold Val.whole; simp [Val.dep]), Val.can_of_is (Val.whole_is n)]
theorem canon_truth (b : Bool) : (Val.truth b).canon = (.truth b, 0) := by
 unfold Val.canon
 rw [if_neg (by unfold Val.truth; simp [Val.dep]), Val.can_of_is (Val.truth_is b)]
theorem Exp.lit_ev (q : Req) (c : List Ent) (v : Val) : (Exp.lit v).ev q c = v.canon := by
 rw [Exp.ev_def]
 simp [Exp.lit, Exp.op, Exp.v, Exp.names, Exp.kids, evOp, zcu, zb3]
theorem Exp.lit_dep (v : Val) : (Exp.lit v).dep = 1 := by simp [Exp.lit, Exp.dep, Exp.deps]
theorem Exp.of_dep (op : Int) (kids : List Exp) : (Exp.of op kids).dep = Exp.deps kids + 1 := by simp [Exp.of, Exp.dep]
theorem Exp.of_ev (q : Req) (c : List Ent) (op : Int) (kids : List Exp) : (Exp.of op kids).ev q c = evOp q c op .zero ByteArray.empty [] (kids.map (Exp.ev q c)) := by
 rw [Exp.ev_def]; rfl
theorem two_nums (q : Req) (c : List Ent) (op a b : Int) (h : op = 9 ∨ op = 10 ∨ op = 11 ∨ op = 12 ∨ op = 13) : (Exp.of op [.lit (.whole a), .lit (.whole b)]).eval q c = twoV c op (.whole a) (.whole b) := by
 unfold Exp.eval
 rw [if_neg (by rw [Exp.of_dep]; simp [Exp.deps, Exp.lit_dep]), Exp.of_ev]
 simp only [List.map_cons, List.map_nil, Exp.lit_ev, canon_whole]
 rcases h with rfl | rfl | rfl | rfl | rfl <;> simp [evOp, zcu, zb3, zda]
theorem fitI_in {n : Int} (h : -9223372036854775808 ≤ n ∧ n ≤ 9223372036854775807) : fitI n = (.whole n, 0) := by unfold fitI; rw [if_pos h]
theorem two_add (c : List Ent) (a b : Int) : twoV c 11 (.whole a) (.whole b) = fitI (a + b) := by simp [twoV, Val.whole, Val.kind, Val.num]
theorem short_ev (q : Req) (c : List Ent) (x : Exp) (w : Nat) (hw : w < 4) : ∀ e : Exp, ([Exp.of 4 [.lit (.truth false), x], Exp.of 5 [.lit (.truth true), x], Exp.of 7 [.lit (.truth true), .lit (.truth true), x], Exp.of 7 [.lit (.truth false), x, .lit (.truth true)]] : List Exp)[w]? = some e →
  e.ev q c = yes (decide (0 < w)) := by
 intro e he
 rcases (by omega : w = 0 ∨ w = 1 ∨ w = 2 ∨ w = 3) with rfl | rfl | rfl | rfl <;> simp at he <;> subst he <;> rw [Exp.of_ev] <;>
  simp only [List.map_cons, List.map_nil, Exp.lit_ev, canon_truth] <;> simp [evOp, zcu, zb3, zdp, zeg, Val.truth, Val.kind, Val.bo, yes]
end Go.Proofs.YtebfoimbdljbmaaGreatDoor

/-
  Expressions that the statements make: literals, operators over a row of kids. The conditions: none (lemmas).
-/
namespace Go.Proofs.YtebfoimbdljbmaaGreatDoor
open Go.RowKit
def E0 : ByteArray := ByteArray.empty
theorem strs_nil (S : Nat → Prop) (w : World) : StrsAt S w [] (.slice none 0 0) := ⟨none, 0, rfl, by simp, by simp, by simp, by simp, by simp⟩
def litC (vc : List Value) : List Value := .int .i64 1 :: (vc ++ [.string ByteArray.empty, .slice none 0 0, .slice none 0 0])
theorem lit_at {S : Nat → Prop} {w : World} {v : Val} {vc : List Value} (h : Val.At S w v vc) : Exp.At S w (.lit v) (litC vc) :=
 Exp.At.of ⟨by omega, by omega⟩ (by rw [zaj]; decide) h (Rep.RowsAt.nil _ _) (strs_nil _ _)
def opC (op : Int) (k : Value) : List Value := .int .i64 op :: (zeroCells ++ [.string ByteArray.empty, k, .slice none 0 0])
theorem of_at {S : Nat → Prop} {w : World} {op : Int} {l : List Exp} {k : Value} (ho : I64 op) (h : expR.RowsAt S w l k) : Exp.At S w (.of op l) (opC op k) :=
 Exp.At.of ho (by rw [zaj]; decide) (Val.zero_at _ _) h (strs_nil _ _)
def reqZ : Req := ⟨(E0, E0), (E0, E0), (E0, E0), .zero⟩
def reqC : List Value := .string ByteArray.empty :: .string ByteArray.empty :: .string ByteArray.empty :: .string ByteArray.empty :: .string ByteArray.empty :: .string ByteArray.empty :: zeroCells
theorem reqZ_at (S : Nat → Prop) (w : World) : Req.At S w reqZ reqC :=
 ⟨zeroCells, rfl, ⟨⟨by rw [zaj]; decide, by rw [zaj]; decide⟩, ⟨by rw [zaj]; decide, by rw [zaj]; decide⟩, ⟨by rw [zaj]; decide, by rw [zaj]; decide⟩⟩, Val.zero_at _ _⟩
theorem kids_at {w : World} {l : List Exp} {xs : List Value} {b n cap : Nat} {T : TypeId} {fz : Nat × Nat} (h : w.heap[b]? = some (.cells xs.toArray T fz)) (hf : expR.Flat (fun b => b < w.heap.size) w l xs) (hl : l.length ≤ LIM) (hn : n = l.length) (hc : l.length ≤ cap) (hcm : cap ≤ maxLen) :
  expR.RowsAt (fun b => b < w.heap.size) w l (.slice (some ⟨b, 0, none⟩) n cap) := flat_block h hf (zaf h) hl hn hc hcm
theorem flat_nil {S : Nat → Prop} {w : World} : expR.Flat S w [] [] := rfl
theorem zec {S : Nat → Prop} {w : World} {e : Exp} {l : List Exp} {cs xs : List Value} (h : Exp.At S w e cs) (hf : expR.Flat S w l xs) : expR.Flat S w (e :: l) (cs ++ xs) := ⟨cs, xs, rfl, h, hf⟩
theorem evalZA_ok {A : Int → Prop} (hev : ∀ n, EvOf A reqZ [] n) (e : Exp) (r : Rs) (w : World) (cs : List Value) (hr : e.eval reqZ [] = r) (hd : e.dep ≤ 1000000) (hl : e.fine A) (he : InX w e cs) (hs : Sums w) :
  Calls Tryz.prog 13 #[.agg cs.toArray, .agg reqC.toArray, .pointer none] w (zb0 r.1 r.2 w) := by
 subst hr
 exact evalA_ok (q := reqZ) (c := []) hev e w cs reqC (.pointer none) hd hl he (reqZ_at _ _) (.inl ⟨rfl, rfl⟩) (by unfold reqZ Val.zero; simp [Val.dep]) hs
theorem Exp.lit_lits {d : Nat} {v : Val} (h : v.dep ≤ d) : (Exp.lit v).lits d := by unfold Exp.lit; simp [Exp.lits, Exp.litsL, h]
theorem Exp.of_lits {d : Nat} {op : Int} {l : List Exp} (hd : 1 ≤ d) (h : ∀ x ∈ l, x.lits d) : (Exp.of op l).lits d := by
 unfold Exp.of
 simp only [Exp.lits, Exp.litsL_iff]
 exact ⟨by unfold Val.zero; simp [Val.dep]; omega, h⟩
theorem and_false (x : Exp) (h : x.dep ≤ 40) : (Exp.of 4 [.lit (.truth false), x]).eval reqZ [] = (.truth false, 0) := by
 unfold Exp.eval
 rw [if_neg (by rw [Exp.of_dep]; simp only [Exp.deps, Exp.lit_dep]; omega), short_ev reqZ [] x 0 (by omega) _ rfl]
 rfl
theorem and_bad (n : Int) : (Exp.of 4 [.lit (.truth true), .lit (.whole n)]).eval reqZ [] = (.zero, 30) := by
 unfold Exp.eval
 rw [if_neg (by rw [Exp.of_dep]; simp [Exp.deps, Exp.lit_dep]), Exp.of_ev]
 simp only [List.map_cons, List.map_nil, Exp.lit_ev, canon_truth, canon_whole]
 simp [evOp, zcu, zb3, zdp, zeg, Val.truth, Val.whole, Val.kind, Val.bo, no]
theorem add_two : (Exp.of 11 [.lit (.whole 1), .lit (.whole 1)]).eval reqZ [] = (.whole 2, 0) := by
 rw [two_nums _ _ _ _ _ (by omega), two_add, fitI_in (by omega)]
 rfl
end Go.Proofs.YtebfoimbdljbmaaGreatDoor

/-
  What the fourteenth layer's statements try first. The conditions: the table of operators lies as it is laid at the start.
-/
namespace Go.Proofs.YtebfoimbdljbmaaGreatDoor
open Go.RowKit
open Lib renaming hid → q_
set_option maxRecDepth 100000
set_option maxHeartbeats 4000000
theorem scp_A : (Scp.mk 3 ⟨#[65]⟩ (E0, E0) false []).holds [] (⟨#[65]⟩, E0) = (true, 0) := by unfold Scp.holds; simp
theorem awake14_ok (w : World) (hs : Sums w) : Calls Tryz.prog 10 #[] w fun e w' => e = .returned (.bool true) ∧ Ext w w' := by
 have HS := q_ hs
 clear hs
 go_enter Tryz.func10, Tryz.ntmps10
 go_wp2_with fail
 refine ((lit_ok 1 false 0 ByteArray.empty ByteArray.empty ByteArray.empty none 0 0 none 0 0 _)).mono ?_
 rintro e1 w1 ⟨rfl, hx1⟩
 go_wp2_with fail
 refine ((lit_ok 1 true 0 ByteArray.empty ByteArray.empty ByteArray.empty none 0 0 none 0 0 _)).mono ?_
 rintro e2 w2 ⟨rfl, hx2⟩
 have HF2 := q_ ((hx2.block _ (by simp)).trans (heap_alloc_new w1 (.cells #[.int .i64 1, .int .i64 1, .bool false, .int .i64 0, .string ByteArray.empty, .string ByteArray.empty, .string ByteArray.empty, .slice none 0 0, .slice none 0 0, .string ByteArray.empty, .slice none 0 0, .slice none 0 0] 30)))
 have HX2 := q_ ((hx1.alloc _).trans hx2)
 clear hx1 hx2
 go_wp2_with fail
 refine ((lit_ok 2 false 1 ByteArray.empty ByteArray.empty ByteArray.empty none 0 0 none 0 0 _)).mono ?_
 rintro e3 w3 ⟨rfl, hx3⟩
 have HF3 := q_ ((hx3.block _ (by have := zaf HF2.out; simp; omega)).trans ((heap_alloc_old w2 (.cells #[.int .i64 1, .int .i64 1, .bool true, .int .i64 0, .string ByteArray.empty, .string ByteArray.empty, .string ByteArray.empty, .slice none 0 0, .slice none 0 0, .string ByteArray.empty, .slice none 0 0, .slice none 0 0] 30) (zaf HF2.out)).trans HF2.out))
 have HT3 := q_ ((hx3.block _ (by simp)).trans (heap_alloc_new w2 (.cells #[.int .i64 1, .int .i64 1, .bool true, .int .i64 0, .string ByteArray.empty, .string ByteArray.empty, .string ByteArray.empty, .slice none 0 0, .slice none 0 0, .string ByteArray.empty, .slice none 0 0, .slice none 0 0] 30)))
 have HX3 := q_ ((HX2.out.alloc _).trans hx3)
 clear hx3 HF2 HX2
 have HF4 := q_ ((heap_alloc_old w3 (.cells #[.int .i64 1, .int .i64 2, .bool false, .int .i64 1, .string ByteArray.empty, .string ByteArray.empty, .string ByteArray.empty, .slice none 0 0, .slice none 0 0, .string ByteArray.empty, .slice none 0 0, .slice none 0 0] 30) (zaf HF3.out)).trans HF3.out)
 have HT4 := q_ ((heap_alloc_old w3 (.cells #[.int .i64 1, .int .i64 2, .bool false, .int .i64 1, .string ByteArray.empty, .string ByteArray.empty, .string ByteArray.empty, .slice none 0 0, .slice none 0 0, .string ByteArray.empty, .slice none 0 0, .slice none 0 0] 30) (zaf HT3.out)).trans HT3.out)
 have HN4 := q_ (heap_alloc_new w3 (.cells #[.int .i64 1, .int .i64 2, .bool false, .int .i64 1, .string ByteArray.empty, .string ByteArray.empty, .string ByteArray.empty, .slice none 0 0, .slice none 0 0, .string ByteArray.empty, .slice none 0 0, .slice none 0 0] 30))
 have HX4 := q_ (HX3.out.alloc (.cells #[.int .i64 1, .int .i64 2, .bool false, .int .i64 1, .string ByteArray.empty, .string ByteArray.empty, .string ByteArray.empty, .slice none 0 0, .slice none 0 0, .string ByteArray.empty, .slice none 0 0, .slice none 0 0] 30))
 clear HF3 HT3 HX3
 have HS4 := q_ (HS.out.ext HX4.out)
 clear HS
 go_wp2_with (first | (with_reducible refine zaw ?_; refine zab rfl 30 _ rfl w1.heap.size 0 rfl zar zao (cs := [.int .i64 1, .int .i64 1, .bool false, .int .i64 0, .string ByteArray.empty, .string ByteArray.empty, .string ByteArray.empty, .slice none 0 0, .slice none 0 0, .string ByteArray.empty, .slice none 0 0, .slice none 0 0]) rfl (zak HF4.out) ?_) | (with_reducible refine zaw ?_; refine zab rfl 30 _ rfl w2.heap.size 0 rfl zar zao (cs := [.int .i64 1, .int .i64 1, .bool true, .int .i64 0, .string ByteArray.empty, .string ByteArray.empty, .string ByteArray.empty, .slice none 0 0, .slice none 0 0, .string ByteArray.empty, .slice none 0 0, .slice none 0 0]) rfl (zak HT4.out) ?_) | (with_reducible refine zaw ?_; refine zab rfl 30 _ rfl w3.heap.size 0 rfl zar zao (cs := [.int .i64 1, .int .i64 2, .bool false, .int .i64 1, .string ByteArray.empty, .string ByteArray.empty, .string ByteArray.empty, .slice none 0 0, .slice none 0 0, .string ByteArray.empty, .slice none 0 0, .slice none 0 0]) rfl (zak HN4.out) ?_))
 obtain ⟨w4, hW⟩ : ∃ W, W = w3.alloc (.cells #[.int .i64 1, .int .i64 2, .bool false, .int .i64 1, .string ByteArray.empty, .string ByteArray.empty, .string ByteArray.empty, .slice none 0 0, .slice none 0 0, .string ByteArray.empty, .slice none 0 0, .slice none 0 0] 30) := ⟨_, rfl⟩
 rw [← hW] at HF4 HT4 HN4 HX4 HS4 ⊢
 have Hsz := q_ (show w4.heap.size = w3.heap.size + 1 by rw [hW]; simp)
 clear hW
 obtain ⟨x5, hW⟩ : ∃ W, W = w4.alloc (.cells #[.int .i64 1, .int .i64 1, .bool false, .int .i64 0, .string ByteArray.empty, .string ByteArray.empty, .string ByteArray.empty, .slice none 0 0, .slice none 0 0, .string ByteArray.empty, .slice none 0 0, .slice none 0 0, .int .i64 1, .int .i64 2, .bool false, .int .i64 1, .string ByteArray.empty, .string ByteArray.empty, .string ByteArray.empty, .slice none 0 0, .slice none 0 0, .string ByteArray.empty, .slice none 0 0, .slice none 0 0] 30) := ⟨_, rfl⟩
 have HR := q_ (show x5.heap[w3.heap.size + 1]? = some (.cells #[.int .i64 1, .int .i64 1, .bool false, .int .i64 0, .string ByteArray.empty, .string ByteArray.empty, .string ByteArray.empty, .slice none 0 0, .slice none 0 0, .string ByteArray.empty, .slice none 0 0, .slice none 0 0, .int .i64 1, .int .i64 2, .bool false, .int .i64 1, .string ByteArray.empty, .string ByteArray.empty, .string ByteArray.empty, .slice none 0 0, .slice none 0 0, .string ByteArray.empty, .slice none 0 0, .slice none 0 0] 30 (0, 0)) by rw [hW, ← Hsz.out]; exact heap_alloc_new _ _)
 have hxx : Ext w4 x5 := by rw [hW]; exact (Ext.refl _).alloc _
 rw [← hW]
 clear hW
 have hk : expR.RowsAt (fun b => b < x5.heap.size) x5 [.lit (.truth false), .lit (.whole 1)] (.slice (some ⟨w3.heap.size + 1, 0, none⟩) 2 2) := kids_at (xs := [.int .i64 1, .int .i64 1, .bool false, .int .i64 0, .string ByteArray.empty, .string ByteArray.empty, .string ByteArray.empty, .slice none 0 0, .slice none 0 0, .string ByteArray.empty, .slice none 0 0, .slice none 0 0, .int .i64 1, .int .i64 2, .bool false, .int .i64 1, .string ByteArray.empty, .string ByteArray.empty, .string ByteArray.empty, .slice none 0 0, .slice none 0 0, .string ByteArray.empty, .slice none 0 0, .slice none 0 0]) HR.out (zec (cs := [.int .i64 1, .int .i64 1, .bool false, .int .i64 0, .string ByteArray.empty, .string ByteArray.empty, .string ByteArray.empty, .slice none 0 0, .slice none 0 0, .string ByteArray.empty, .slice none 0 0, .slice none 0 0]) (lit_at (zeh _ _ false)) (zec (cs := [.int .i64 1, .int .i64 2, .bool false, .int .i64 1, .string ByteArray.empty, .string ByteArray.empty, .string ByteArray.empty, .slice none 0 0, .slice none 0 0, .string ByteArray.empty, .slice none 0 0, .slice none 0 0]) (lit_at (whole_at _ _ 1 (by unfold I64; omega))) flat_nil)) (by rw [zaq]; simp) rfl (by simp) (by rw [zaj]; omega)
 have hc := evalZA_ok evF_ok (.of 4 [.lit (.truth false), .lit (.whole 1)]) _ x5 (opC 4 (.slice (some ⟨w3.heap.size + 1, 0, none⟩) 2 2)) (and_false (.lit (.whole 1)) (by rw [Exp.lit_dep]; omega)) (by rw [Exp.of_dep]; simp [Exp.deps, Exp.lit_dep]) ⟨Exp.of_lits (by omega) (by intro x hx; simp at hx; rcases hx with rfl | rfl <;> exact Exp.lit_lits (by decide)), by simp [Exp.of, Exp.lit, Exp.ops, Exp.opsL, Few3]⟩ (of_at (by unfold I64; omega) hk) (HS4.out.ext hxx)
 refine hc.mono ?_
 rintro e5 w5 ⟨cv, rfl, hv, hx5⟩
 obtain ⟨zA5, zc5, zB5, zd5, rfl⟩ := hv.opened
 have hxx := hxx.trans hx5
 clear hk hc hv hx5 HR Hsz
 have HF6 := q_ ((heap_alloc_old w5 (.cells #[.int .i64 1, .bool false, .int .i64 0, .string ByteArray.empty, .string ByteArray.empty, .string ByteArray.empty, .slice zA5 0 zc5, .slice zB5 0 zd5] 27) (zaf ((hxx.block _ (zaf HF4.out)).trans HF4.out))).trans ((hxx.block _ (zaf HF4.out)).trans HF4.out))
 have HT6 := q_ ((heap_alloc_old w5 (.cells #[.int .i64 1, .bool false, .int .i64 0, .string ByteArray.empty, .string ByteArray.empty, .string ByteArray.empty, .slice zA5 0 zc5, .slice zB5 0 zd5] 27) (zaf ((hxx.block _ (zaf HT4.out)).trans HT4.out))).trans ((hxx.block _ (zaf HT4.out)).trans HT4.out))
 have HN6 := q_ ((heap_alloc_old w5 (.cells #[.int .i64 1, .bool false, .int .i64 0, .string ByteArray.empty, .string ByteArray.empty, .string ByteArray.empty, .slice zA5 0 zc5, .slice zB5 0 zd5] 27) (zaf ((hxx.block _ (zaf HN4.out)).trans HN4.out))).trans ((hxx.block _ (zaf HN4.out)).trans HN4.out))
 have HX6 := q_ ((HX4.out.trans hxx).alloc (.cells #[.int .i64 1, .bool false, .int .i64 0, .string ByteArray.empty, .string ByteArray.empty, .string ByteArray.empty, .slice zA5 0 zc5, .slice zB5 0 zd5] 27))
 have HS6 := q_ ((HS4.out.ext hxx).ext ((Ext.refl w5).alloc (.cells #[.int .i64 1, .bool false, .int .i64 0, .string ByteArray.empty, .string ByteArray.empty, .string ByteArray.empty, .slice zA5 0 zc5, .slice zB5 0 zd5] 27)))
 have HQ56 := q_ (heap_alloc_new w5 (.cells #[.int .i64 1, .bool false, .int .i64 0, .string ByteArray.empty, .string ByteArray.empty, .string ByteArray.empty, .slice zA5 0 zc5, .slice zB5 0 zd5] 27))
 clear hxx HX4 HS4 HF4 HT4 HN4
 go_wp2_with (first | (with_reducible refine zaw ?_; refine zab rfl 30 _ rfl w1.heap.size 0 rfl zar zao (cs := [.int .i64 1, .int .i64 1, .bool false, .int .i64 0, .string ByteArray.empty, .string ByteArray.empty, .string ByteArray.empty, .slice none 0 0, .slice none 0 0, .string ByteArray.empty, .slice none 0 0, .slice none 0 0]) rfl (zak HF6.out) ?_) | (with_reducible refine zaw ?_; refine zab rfl 30 _ rfl w2.heap.size 0 rfl zar zao (cs := [.int .i64 1, .int .i64 1, .bool true, .int .i64 0, .string ByteArray.empty, .string ByteArray.empty, .string ByteArray.empty, .slice none 0 0, .slice none 0 0, .string ByteArray.empty, .slice none 0 0, .slice none 0 0]) rfl (zak HT6.out) ?_) | (with_reducible refine zaw ?_; refine zab rfl 30 _ rfl w3.heap.size 0 rfl zar zao (cs := [.int .i64 1, .int .i64 2, .bool false, .int .i64 1, .string ByteArray.empty, .string ByteArray.empty, .string ByteArray.empty, .slice none 0 0, .slice none 0 0, .string ByteArray.empty, .slice none 0 0, .slice none 0 0]) rfl (zak HN6.out) ?_))
 obtain ⟨w6, hW⟩ : ∃ W, W = w5.alloc (.cells #[.int .i64 1, .bool false, .int .i64 0, .string ByteArray.empty, .string ByteArray.empty, .string ByteArray.empty, .slice zA5 0 zc5, .slice zB5 0 zd5] 27) := ⟨_, rfl⟩
 rw [← hW] at HT6 HN6 HQ56 HX6 HS6 ⊢
 have Hsz := q_ (show w6.heap.size = w5.heap.size + 1 by rw [hW]; simp)
 clear hW
 obtain ⟨x7, hW⟩ : ∃ W, W = w6.alloc (.cells #[.int .i64 1, .int .i64 1, .bool true, .int .i64 0, .string ByteArray.empty, .string ByteArray.empty, .string ByteArray.empty, .slice none 0 0, .slice none 0 0, .string ByteArray.empty, .slice none 0 0, .slice none 0 0, .int .i64 1, .int .i64 2, .bool false, .int .i64 1, .string ByteArray.empty, .string ByteArray.empty, .string ByteArray.empty, .slice none 0 0, .slice none 0 0, .string ByteArray.empty, .slice none 0 0, .slice none 0 0] 30) := ⟨_, rfl⟩
 have HR := q_ (show x7.heap[w5.heap.size + 1]? = some (.cells #[.int .i64 1, .int .i64 1, .bool true, .int .i64 0, .string ByteArray.empty, .string ByteArray.empty, .string ByteArray.empty, .slice none 0 0, .slice none 0 0, .string ByteArray.empty, .slice none 0 0, .slice none 0 0, .int .i64 1, .int .i64 2, .bool false, .int .i64 1, .string ByteArray.empty, .string ByteArray.empty, .string ByteArray.empty, .slice none 0 0, .slice none 0 0, .string ByteArray.empty, .slice none 0 0, .slice none 0 0] 30 (0, 0)) by rw [hW, ← Hsz.out]; exact heap_alloc_new _ _)
 have hxx : Ext w6 x7 := by rw [hW]; exact (Ext.refl _).alloc _
 rw [← hW]
 clear hW
 have hk : expR.RowsAt (fun b => b < x7.heap.size) x7 [.lit (.truth true), .lit (.whole 1)] (.slice (some ⟨w5.heap.size + 1, 0, none⟩) 2 2) := kids_at (xs := [.int .i64 1, .int .i64 1, .bool true, .int .i64 0, .string ByteArray.empty, .string ByteArray.empty, .string ByteArray.empty, .slice none 0 0, .slice none 0 0, .string ByteArray.empty, .slice none 0 0, .slice none 0 0, .int .i64 1, .int .i64 2, .bool false, .int .i64 1, .string ByteArray.empty, .string ByteArray.empty, .string ByteArray.empty, .slice none 0 0, .slice none 0 0, .string ByteArray.empty, .slice none 0 0, .slice none 0 0]) HR.out (zec (cs := [.int .i64 1, .int .i64 1, .bool true, .int .i64 0, .string ByteArray.empty, .string ByteArray.empty, .string ByteArray.empty, .slice none 0 0, .slice none 0 0, .string ByteArray.empty, .slice none 0 0, .slice none 0 0]) (lit_at (zeh _ _ true)) (zec (cs := [.int .i64 1, .int .i64 2, .bool false, .int .i64 1, .string ByteArray.empty, .string ByteArray.empty, .string ByteArray.empty, .slice none 0 0, .slice none 0 0, .string ByteArray.empty, .slice none 0 0, .slice none 0 0]) (lit_at (whole_at _ _ 1 (by unfold I64; omega))) flat_nil)) (by rw [zaq]; simp) rfl (by simp) (by rw [zaj]; omega)
 have hc := evalZA_ok evF_ok (.of 4 [.lit (.truth true), .lit (.whole 1)]) _ x7 (opC 4 (.slice (some ⟨w5.heap.size + 1, 0, none⟩) 2 2)) (and_bad 1) (by rw [Exp.of_dep]; simp [Exp.deps, Exp.lit_dep]) ⟨Exp.of_lits (by omega) (by intro x hx; simp at hx; rcases hx with rfl | rfl <;> exact Exp.lit_lits (by decide)), by simp [Exp.of, Exp.lit, Exp.ops, Exp.opsL, Few3]⟩ (of_at (by unfold I64; omega) hk) (HS6.out.ext hxx)
 refine hc.mono ?_
 rintro e7 w7 ⟨cv, rfl, hv, hx7⟩
 obtain ⟨zA7, zc7, zB7, zd7, rfl⟩ := hv.opened
 have hxx := hxx.trans hx7
 clear hk hc hv hx7 HR Hsz
 have HT8 := q_ ((heap_alloc_old w7 (.cells #[.int .i64 0, .bool false, .int .i64 0, .string ByteArray.empty, .string ByteArray.empty, .string ByteArray.empty, .slice zA7 0 zc7, .slice zB7 0 zd7] 27) (zaf ((hxx.block _ (zaf HT6.out)).trans HT6.out))).trans ((hxx.block _ (zaf HT6.out)).trans HT6.out))
 have HN8 := q_ ((heap_alloc_old w7 (.cells #[.int .i64 0, .bool false, .int .i64 0, .string ByteArray.empty, .string ByteArray.empty, .string ByteArray.empty, .slice zA7 0 zc7, .slice zB7 0 zd7] 27) (zaf ((hxx.block _ (zaf HN6.out)).trans HN6.out))).trans ((hxx.block _ (zaf HN6.out)).trans HN6.out))
 have HQ58 := q_ ((heap_alloc_old w7 (.cells #[.int .i64 0, .bool false, .int .i64 0, .string ByteArray.empty, .string ByteArray.empty, .string ByteArray.empty, .slice zA7 0 zc7, .slice zB7 0 zd7] 27) (zaf ((hxx.block _ (zaf HQ56.out)).trans HQ56.out))).trans ((hxx.block _ (zaf HQ56.out)).trans HQ56.out))
 have HX8 := q_ ((HX6.out.trans hxx).alloc (.cells #[.int .i64 0, .bool false, .int .i64 0, .string ByteArray.empty, .string ByteArray.empty, .string ByteArray.empty, .slice zA7 0 zc7, .slice zB7 0 zd7] 27))
 have HS8 := q_ ((HS6.out.ext hxx).ext ((Ext.refl w7).alloc (.cells #[.int .i64 0, .bool false, .int .i64 0, .string ByteArray.empty, .string ByteArray.empty, .string ByteArray.empty, .slice zA7 0 zc7, .slice zB7 0 zd7] 27)))
 have HQ78 := q_ (heap_alloc_new w7 (.cells #[.int .i64 0, .bool false, .int .i64 0, .string ByteArray.empty, .string ByteArray.empty, .string ByteArray.empty, .slice zA7 0 zc7, .slice zB7 0 zd7] 27))
 clear hxx HX6 HS6 HT6 HN6 HQ56
 go_wp2_with (first | (with_reducible refine zaw ?_; refine zab rfl 30 _ rfl w2.heap.size 0 rfl zar zao (cs := [.int .i64 1, .int .i64 1, .bool true, .int .i64 0, .string ByteArray.empty, .string ByteArray.empty, .string ByteArray.empty, .slice none 0 0, .slice none 0 0, .string ByteArray.empty, .slice none 0 0, .slice none 0 0]) rfl (zak HT8.out) ?_) | (with_reducible refine zaw ?_; refine zab rfl 30 _ rfl w3.heap.size 0 rfl zar zao (cs := [.int .i64 1, .int .i64 2, .bool false, .int .i64 1, .string ByteArray.empty, .string ByteArray.empty, .string ByteArray.empty, .slice none 0 0, .slice none 0 0, .string ByteArray.empty, .slice none 0 0, .slice none 0 0]) rfl (zak HN8.out) ?_))
 obtain ⟨w8, hW⟩ : ∃ W, W = w7.alloc (.cells #[.int .i64 0, .bool false, .int .i64 0, .string ByteArray.empty, .string ByteArray.empty, .string ByteArray.empty, .slice zA7 0 zc7, .slice zB7 0 zd7] 27) := ⟨_, rfl⟩
 rw [← hW] at HQ58 HX8 HS8 ⊢
 have Hsz := q_ (show w8.heap.size = w7.heap.size + 1 by rw [hW]; simp)
 clear hW
 obtain ⟨x9, hW⟩ : ∃ W, W = w8.alloc (.cells #[.int .i64 1, .int .i64 2, .bool false, .int .i64 1, .string ByteArray.empty, .string ByteArray.empty, .string ByteArray.empty, .slice none 0 0, .slice none 0 0, .string ByteArray.empty, .slice none 0 0, .slice none 0 0, .int .i64 1, .int .i64 2, .bool false, .int .i64 1, .string ByteArray.empty, .string ByteArray.empty, .string ByteArray.empty, .slice none 0 0, .slice none 0 0, .string ByteArray.empty, .slice none 0 0, .slice none 0 0] 30) := ⟨_, rfl⟩
 have HR := q_ (show x9.heap[w7.heap.size + 1]? = some (.cells #[.int .i64 1, .int .i64 2, .bool false, .int .i64 1, .string ByteArray.empty, .string ByteArray.empty, .string ByteArray.empty, .slice none 0 0, .slice none 0 0, .string ByteArray.empty, .slice none 0 0, .slice none 0 0, .int .i64 1, .int .i64 2, .bool false, .int .i64 1, .string ByteArray.empty, .string ByteArray.empty, .string ByteArray.empty, .slice none 0 0, .slice none 0 0, .string ByteArray.empty, .slice none 0 0, .slice none 0 0] 30 (0, 0)) by rw [hW, ← Hsz.out]; exact heap_alloc_new _ _)
 have hxx : Ext w8 x9 := by rw [hW]; exact (Ext.refl _).alloc _
 rw [← hW]
 clear hW
 have hk : expR.RowsAt (fun b => b < x9.heap.size) x9 [.lit (.whole 1), .lit (.whole 1)] (.slice (some ⟨w7.heap.size + 1, 0, none⟩) 2 2) := kids_at (xs := [.int .i64 1, .int .i64 2, .bool false, .int .i64 1, .string ByteArray.empty, .string ByteArray.empty, .string ByteArray.empty, .slice none 0 0, .slice none 0 0, .string ByteArray.empty, .slice none 0 0, .slice none 0 0, .int .i64 1, .int .i64 2, .bool false, .int .i64 1, .string ByteArray.empty, .string ByteArray.empty, .string ByteArray.empty, .slice none 0 0, .slice none 0 0, .string ByteArray.empty, .slice none 0 0, .slice none 0 0]) HR.out (zec (cs := [.int .i64 1, .int .i64 2, .bool false, .int .i64 1, .string ByteArray.empty, .string ByteArray.empty, .string ByteArray.empty, .slice none 0 0, .slice none 0 0, .string ByteArray.empty, .slice none 0 0, .slice none 0 0]) (lit_at (whole_at _ _ 1 (by unfold I64; omega))) (zec (cs := [.int .i64 1, .int .i64 2, .bool false, .int .i64 1, .string ByteArray.empty, .string ByteArray.empty, .string ByteArray.empty, .slice none 0 0, .slice none 0 0, .string ByteArray.empty, .slice none 0 0, .slice none 0 0]) (lit_at (whole_at _ _ 1 (by unfold I64; omega))) flat_nil)) (by rw [zaq]; simp) rfl (by simp) (by rw [zaj]; omega)
 have hc := evalZA_ok evF_ok (.of 11 [.lit (.whole 1), .lit (.whole 1)]) _ x9 (opC 11 (.slice (some ⟨w7.heap.size + 1, 0, none⟩) 2 2)) (add_two) (by rw [Exp.of_dep]; simp [Exp.deps, Exp.lit_dep]) ⟨Exp.of_lits (by omega) (by intro x hx; simp at hx; rcases hx with rfl | rfl <;> exact Exp.lit_lits (by decide)), by simp [Exp.of, Exp.lit, Exp.ops, Exp.opsL, Few3]⟩ (of_at (by unfold I64; omega) hk) (HS8.out.ext hxx)
 refine hc.mono ?_
 rintro e9 w9 ⟨cv, rfl, hv, hx9⟩
 obtain ⟨zA9, zc9, zB9, zd9, rfl⟩ := hv.opened
 have hxx := hxx.trans hx9
 clear hk hc hv hx9 HR Hsz
 have HQ510 := q_ ((heap_alloc_old w9 (.cells #[.int .i64 2, .bool false, .int .i64 2, .string ByteArray.empty, .string ByteArray.empty, .string ByteArray.empty, .slice zA9 0 zc9, .slice zB9 0 zd9] 27) (zaf ((hxx.block _ (zaf HQ58.out)).trans HQ58.out))).trans ((hxx.block _ (zaf HQ58.out)).trans HQ58.out))
 have HX10 := q_ ((HX8.out.trans hxx).alloc (.cells #[.int .i64 2, .bool false, .int .i64 2, .string ByteArray.empty, .string ByteArray.empty, .string ByteArray.empty, .slice zA9 0 zc9, .slice zB9 0 zd9] 27))
 have HS10 := q_ ((HS8.out.ext hxx).ext ((Ext.refl w9).alloc (.cells #[.int .i64 2, .bool false, .int .i64 2, .string ByteArray.empty, .string ByteArray.empty, .string ByteArray.empty, .slice zA9 0 zc9, .slice zB9 0 zd9] 27)))
 have HQ910 := q_ (heap_alloc_new w9 (.cells #[.int .i64 2, .bool false, .int .i64 2, .string ByteArray.empty, .string ByteArray.empty, .string ByteArray.empty, .slice zA9 0 zc9, .slice zB9 0 zd9] 27))
 clear hxx HX8 HS8 HQ58
 go_wp2_with fail
 have hh := holds_n_3f (c := []) ⟨#[65]⟩ E0 E0 ⟨#[65]⟩ E0 [] none 0 (w9.alloc (.cells #[.int .i64 2, .bool false, .int .i64 2, .string ByteArray.empty, .string ByteArray.empty, .string ByteArray.empty, .slice zA9 0 zc9, .slice zB9 0 zd9] 27)) ⟨by rw [zaj]; decide, by rw [zaj]; decide⟩ ⟨by rw [zaj]; decide, by rw [zaj]; decide⟩ (.inl ⟨rfl, rfl⟩) (Rep.RowsAt.nil _ _)
 rw [scp_A] at hh
 refine hh.mono ?_
 rintro e11 w11 ⟨rfl, hx11⟩
 have HA := q_ ((hx11.block _ (zaf HQ510.out)).trans HQ510.out)
 have HB := q_ ((hx11.block _ (zaf HQ910.out)).trans HQ910.out)
 have HX11 := q_ (HX10.out.trans hx11)
 have f0 : w11.cell? ⟨w5.heap.size, 0, none⟩ = some (.int .i64 1) := cell_of_row _ _ 0 _ _ _ HA.out
 have f1 : w11.cell? ⟨w5.heap.size, 1, none⟩ = some (.bool false) := cell_of_row _ _ 1 _ _ _ HA.out
 have f2 : w11.cell? ⟨w9.heap.size, 2, none⟩ = some (.int .i64 2) := cell_of_row _ _ 2 _ _ _ HB.out
 clear hx11 hh
 go_wp2_with fail
 go_ret
 exact ⟨rfl, HX11.out⟩
end Go.Proofs.YtebfoimbdljbmaaGreatDoor
