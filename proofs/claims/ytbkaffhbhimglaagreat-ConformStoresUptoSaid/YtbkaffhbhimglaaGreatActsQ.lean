/-
  A schema's actions as entities: what the program makes. The conditions: the schema lies in memory as it should.
-/
import Derived.Test.YtbkaffhbhimglaaGreatGh
import Derived.Test.YtbkaffhbhimglaaGreatGf
import Derived.Test.YtbkaffhbhimglaaGreatGd
import Derived.Test.YtbkaffhbhimglaaGreatRow1Q
namespace Go.Proofs.YtbkaffhbhimglaaGreat
open Go.RowKit
open Lib renaming hid → q_
set_option maxRecDepth 100000
set_option maxHeartbeats 4000000
def tAct : ByteArray := ⟨#[65, 99, 116, 105, 111, 110]⟩
theorem tAct_fit : tAct.size ≤ maxLen := by rw [zab]; decide
def upA (l : List ByteArray) : List Uid := l.map fun p => (tAct, p)
def zdd (a : ActT) : Ent := ⟨(tAct, a.id), upA a.ins, recV⟩
def zaz (l : List ActT) : List Ent := l.map zdd
theorem actsE_get {l : List ActT} {i : Nat} {a : ActT} (h : l[i]? = some a) : (zaz l)[i]? = some (zdd a) := by simp [zaz, h]
theorem take_next {α : Type} {l : List α} {i : Nat} {x : α} (h : l[i]? = some x) : l.take (i + 1) = l.take i ++ [x] := by
 obtain ⟨hi, rfl⟩ := List.getElem?_eq_some_iff.1 h
 rw [List.take_succ_eq_append_getElem hi]
theorem box_third {w : World} {g : Nat} {T : TypeId} {a b pv pv' : Value} {r : List Value} (h : w.heap[g]? = some (.cells (a :: b :: pv :: r).toArray T (0, 0))) : (w.setCell ⟨g, 2, none⟩ pv').heap[g]? = some (.cells (a :: b :: pv' :: r).toArray T (0, 0)) := by
 have h1 := zbm h 2 pv'
 rw [h1]
 simp [Array.setIfInBounds]
theorem actions_ok (S : Nat → Prop) (s : Sch) (ss : List Value) (w : World) (hS : ∀ b, S b → b < w.heap.size) (hs : Sch.At S w s ss) :
  Calls Tryz.prog 8 #[.agg ss.toArray] w fun e w' => ∃ v, e = .returned v ∧ OwnL entR 49 w.heap.size w' v (zaz s.acts) ∧ Ext w w' := by
 obtain ⟨v1, v2, rfl, h1, h2⟩ := hs
 obtain ⟨A1, cap1, rfl, ⟨_, _, hm2⟩, _⟩ := h1
 obtain ⟨A2, cap2, rfl, ⟨hl0, hl1, hl2⟩, hlr⟩ := h2
 rw [zak] at hl0
 rw [zab] at hl2 hm2
 generalize s.acts = l at hl0 hl1 hlr ⊢
 generalize s.types.length = n1
 obtain ⟨i0, hi0, hz0, hz1, hz2⟩ := info_parts zdr
 obtain ⟨iu, hiu, uz0, uz1, uz2⟩ := info_parts zei
 have HL := q_ hlr
 have HS := q_ hS
 clear hlr hS
 go_enter Tryz.func8, Tryz.ntmps8
 go_wp2_with fail
 go_loopw [3, 12] (fun v' i' wr => ∃ k : Nat, k ≤ l.length ∧ i' = .int .i64 k ∧ Hid (Ext w wr) ∧ Hid (OwnL entR 49 w.heap.size wr v' ((zaz l).take k))) (fun _ i' _ => l.length - (intOf i').toNat)
 case atStart => exact ⟨0, Nat.zero_le _, rfl, q_ ((Ext.refl w).alloc _), q_ OwnL.nil⟩
 case round =>
  obtain ⟨k, hk, rfl, HX, HO⟩ := hrel
  by_cases hlt : k < l.length
  ·obtain ⟨b, o, rfl, hSb, hrow⟩ := HL.out (by omega)
   obtain ⟨a, ha⟩ : ∃ a, l[k]? = some a := ⟨_, List.getElem?_eq_getElem hlt⟩
   obtain ⟨cs, hca, hat⟩ := hrow k a ha
   have hca : CellsAt w b (o + k * 5) cs := hca
   have hat' := hat
   obtain ⟨Aa, la, ca, Ba, lb, cb, Ca, lc, cc, Da, ld, cd, rfl⟩ := sac_shape hat
   obtain ⟨_, _, _, _, e, hid, hins, _⟩ := hat'
   cases e
   obtain ⟨_, _, e, hi0', hi1, hi2, his, hir⟩ := zds hins
   injection e with e1 e2 e3
   subst e1 e2 e3
   rw [zak] at hi0'
   rw [zab] at hi2
   have Hca := q_ (hca.alike hSb (Alike.of_ext HX.out HS.out))
   have Ha := q_ ha
   have Hid' := q_ hid
   have His := q_ his
   have Hir := q_ hir
   obtain ⟨Av, cv, ev⟩ := HO.out.shape
   rw [List.length_take, Nat.min_eq_left (by simp [zaz]; omega)] at ev
   subst ev
   clear hrow hSb hca ha hat hins his hir hid
   go_wp2_with (first | refine zac rfl 41 _ rfl b (o + k * 5) rfl zeh zcg rfl Hca.out ?_)
   rename World => v1
   obtain ⟨q0, q1, qs, qx⟩ := heapT2 v1 (.cells #[.string a.id, .slice Aa a.ins.length ca, .slice Ba lb cb, .slice Ca lc cc, .slice Da ld cd] 41) (.cells #[.string tAct, .string a.id, .slice none 0 0, .int .i64 6, .bool false, .int .i64 0, .string ByteArray.empty, .string ByteArray.empty, .string ByteArray.empty, .slice none 0 0, .slice none 0 0] 49)
   have Q0 := q_ q0
   have Q1 := q_ q1
   have Qx := q_ qx
   clear q0 q1 qs qx
   go_loopw [24] (fun i' wr => ∃ j : Nat, j ≤ a.ins.length ∧ i' = .int .i64 j ∧ Hid (Ext v1 wr) ∧ Hid (wr.heap[v1.heap.size]? = some (.cells #[.string a.id, .slice Aa a.ins.length ca, .slice Ba lb cb, .slice Ca lc cc, .slice Da ld cd] 41 (0, 0))) ∧
    ∃ A c, Hid (wr.heap[v1.heap.size + 1]? = some (.cells #[.string tAct, .string a.id, .slice A j c, .int .i64 6, .bool false, .int .i64 0, .string ByteArray.empty, .string ByteArray.empty, .string ByteArray.empty, .slice none 0 0, .slice none 0 0] 49 (0, 0))) ∧ Hid (OwnL uidR 43 (v1.heap.size + 2) wr (.slice A j c) ((upA a.ins).take j))) (fun i' _ => a.ins.length - (intOf i').toNat)
   case atStart => exact ⟨0, Nat.zero_le _, rfl, Qx, Q0, none, 0, Q1, q_ OwnL.nil⟩
   case round =>
    clear Q0 Q1 Qx
    obtain ⟨j, hj, rfl, HY, HA, A, c, HB, HP⟩ := hrel
    have hbs : v1.heap.size + 2 ≤ wr.heap.size := zad HB.out
    by_cases hjt : j < a.ins.length
    ·obtain ⟨p, hp⟩ : ∃ p, a.ins[j]? = some p := ⟨_, List.getElem?_eq_getElem hjt⟩
     obtain ⟨sb, so, eS, hSs, hsrow⟩ := Hir.out (by omega)
     subst eS
     have c0 : wr.cell? ⟨sb, so + j, none⟩ = some (.string p) := (hsrow.alike hSs (Alike.of_ext (HX.out.trans HY.out) HS.out)) j _ (by simp [hp])
     have c2 : wr.cell? ⟨v1.heap.size + 1, 2, none⟩ = some (.slice A j c) := cell_of_row _ _ 2 _ _ _ HB.out
     have hup : (upA a.ins)[j]? = some (tAct, p) := by simp [upA, hp]
     have hll : ((upA a.ins).take j).length = j := by rw [List.length_take]; simp [upA]; omega
     have Hfit : Hid (FitU (tAct, p)) := q_ ⟨tAct_fit, His.out p (List.mem_of_getElem? hp)⟩
     have Hup := q_ hup
     have Hll := q_ hll
     have Hbs := q_ hbs
     clear hp hsrow hSs hup hll hbs
     go_wp2_with (at_builtin; refine zbh rfl (.tmp 29) (.tmp 32) 47 rfl uidR (v1.heap.size + 2) 43 iu _ 32 Tryz.underlying47 hiu uz0 uz1 uz2 rfl (.slice A j c) ((upA a.ins).take j) wr 43 (tAct, p) [.string tAct, .string p] rfl rfl HP.out ⟨rfl, Hfit.out⟩ (by rw [Hll.out, zab]; omega) (by rw [Hll.out]; omega) Hbs.out ?_)
     intro v' w5 ho5 hg5
     have hne : ∀ b, (Value.slice A j c).ownBlock = some b → v1.heap.size + 2 ≤ b := fun b hb => (HP.out.lt b hb).1
     have hB5 := (hg5.block (v1.heap.size + 1) (zad HB.out) (fun e => by have := hne _ e.symm; omega)).trans HB.out
     have hA5 := (hg5.block v1.heap.size (zad HA.out) (fun e => by have := hne _ e.symm; omega)).trans HA.out
     have hx5 := zas HY.out hg5 fun b e => by have := hne b e; omega
     have q0 : w5.cell? ⟨v1.heap.size + 1, 2, none⟩ = some (.slice A j c) := cell_of_row _ _ 2 _ _ _ hB5
     have q1 : w5.frozen? ⟨v1.heap.size + 1, 2, none⟩ = false := frozen_of_row _ _ _ _ _ hB5
     have q2 : v1.heap.size + 1 < w5.heap.size := zad hB5
     rw [← take_next Hup.out] at ho5
     obtain ⟨A', c', e'⟩ := ho5.shape
     have hl' : ((upA a.ins).take (j + 1)).length = j + 1 := by rw [List.length_take]; simp [upA]; omega
     rw [hl'] at e'
     subst e'
     have HB5 := q_ hB5
     have HA5 := q_ hA5
     have HX5 := q_ hx5
     have HO5 := q_ ho5
     clear hne hB5 hA5 hx5 ho5 hg5 hl' c0 c2
     go_wp2_with fail
     go_roundw
     case rel => exact ⟨j + 1, by omega, by go_num, q_ (zas HX5.out (GrownBy.setCell w5 (v1.heap.size + 1) 2 _) fun b e => by injection e with e; omega),
      q_ (((GrownBy.setCell w5 (v1.heap.size + 1) 2 _).block v1.heap.size (by omega) (fun e => by injection e with e; omega)).trans HA5.out), A', c', q_ (box_third HB5.out), q_ (by
       obtain ⟨xs, o1, o2⟩ := HO5.out
       exact ⟨xs, zav o1 (GrownBy.setCell w5 (v1.heap.size + 1) 2 _) fun b hb e => by injection e with e; have := (o1.lt b hb).1; omega, za7 o2⟩)⟩
     case measure => simp [intOf]; omega
    ·obtain rfl : j = a.ins.length := by omega
     have HP' : Hid (OwnL uidR 43 (v1.heap.size + 2) wr (.slice A a.ins.length c) (upA a.ins)) := q_ (by
      have h := HP.out
      rwa [List.take_of_length_le (by simp [upA])] at h)
     have HO' := q_ (HO.out.ext HY.out)
     have HXw := q_ (HX.out.trans HY.out)
     have hY : Hid (entR.At (fun b => b < wr.heap.size ∧ (Value.slice Av k cv).ownBlock ≠ some b) wr (zdd a) [.string tAct, .string a.id, .slice A a.ins.length c, .int .i64 6, .bool false, .int .i64 0, .string ByteArray.empty, .string ByteArray.empty, .string ByteArray.empty, .slice none 0 0, .slice none 0 0]) := q_ (by
      obtain ⟨xs, o1, o2⟩ := HP'.out
      refine ⟨_, recC, rfl, ⟨tAct_fit, Hid'.out⟩, zd3 (R := uidR) (l := upA a.ins) (by simpa [upA] using o1) (za7 (S' := fun _ => False) o2) (by simp [upA, zak]; omega) (fun b hb => hb.elim) (fun b hb => ⟨(o1.lt b hb).2, fun e => ?_⟩), recV_at _ _⟩
      have h1 := (HO.out.lt b e).2
      have h2 := (o1.lt b hb).1
      omega)
     have hll : ((zaz l).take k).length = k := by rw [List.length_take]; simp [zaz]; omega
     have Hll := q_ hll
     have hsz := HXw.out.size
     have Hsz := q_ hsz
     clear HP hbs hll hsz
     go_wp2_with (first | refine zac rfl 49 _ rfl (v1.heap.size + 1) 0 rfl za0 zau (cs := [.string tAct, .string a.id, .slice A a.ins.length c, .int .i64 6, .bool false, .int .i64 0, .string ByteArray.empty, .string ByteArray.empty, .string ByteArray.empty, .slice none 0 0, .slice none 0 0]) rfl (zat HB.out) ?_ | (at_builtin; refine zbh rfl (.tmp 36) (.tmp 38) 26 rfl entR w.heap.size 49 i0 _ 176 Tryz.underlying26 hi0 hz0 hz1 hz2 rfl (.slice Av k cv) ((zaz l).take k) wr 49 (zdd a) [.string tAct, .string a.id, .slice A a.ins.length c, .int .i64 6, .bool false, .int .i64 0, .string ByteArray.empty, .string ByteArray.empty, .string ByteArray.empty, .slice none 0 0, .slice none 0 0] rfl rfl HO'.out hY.out (by rw [Hll.out, zab]; omega) (by rw [Hll.out]; omega) Hsz.out ?_; intro v' w6 ho6 hg6))
     have hx6 := zas HXw.out hg6 fun b e => (HO'.out.lt b e).1
     rw [← take_next (actsE_get Ha.out)] at ho6
     have HX6 := q_ hx6
     have HO6 := q_ ho6
     clear hx6 ho6 hg6
     go_wp2_with fail
     go_roundw
     case rel => exact ⟨k + 1, by omega, by go_num, HX6, HO6⟩
     case measure => simp [intOf]; omega
  ·obtain rfl : k = l.length := by omega
   have HO' : Hid (OwnL entR 49 w.heap.size wr u3 (zaz l)) := q_ (by
    have h := HO.out
    rwa [List.take_of_length_le (by simp [zaz])] at h)
   clear HO
   go_wp2_with fail
   go_ret
   exact ⟨_, rfl, HO'.out, HX.out⟩
end Go.Proofs.YtbkaffhbhimglaaGreat
