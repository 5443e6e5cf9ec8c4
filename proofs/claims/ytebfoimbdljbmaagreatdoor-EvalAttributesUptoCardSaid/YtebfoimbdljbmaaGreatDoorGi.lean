/-
  Operations of which some act one behind the other; the others come to known values as long as what zbm for them has not acted. No function of the program. The conditions: none (a lemma).
-/
import Derived.Test.YtebfoimbdljbmaaGreatDoorGe
import Derived.Test.YtebfoimbdljbmaaGreatDoorGd
import Derived.Test.YtebfoimbdljbmaaGreatDoorGh
import Derived.Test.YtebfoimbdljbmaaGreatDoorGc
namespace Go.Proofs.YtebfoimbdljbmaaGreatDoor
open Go.RowKit
theorem staged_regionW {P : Program} {l : List Oper} {a0 : Act} {id : Nat} {Q : Exit → Act → World → Prop} {w : World} (n : Nat) (B : List Nat) (vals : List Value) (R : List Value → World → Prop) (hm : P.follows .mixedOrders = true) (hB : monoB l n = true) (hg : plainB l n a0.tmps.size = true)
  (hc : chainedB l n B = true) (h0 : R [] w.drew)
  (hquiet : ∀ i o, i < n → i ∉ B → l[i]? = some o → ∀ (vs : List Value) (w : World) (a : Act), (∀ k j, B[k]? = some j → zbm l j i = true → vs.length ≤ k) → R vs w → (∀ t, notDst l n t = true → a.eval (.tmp t) = a0.eval (.tmp t)) →
   (∀ j t, j < n → zbm l i j = true → zd4 l j t = true → a.eval (.tmp t) = valOf B vals vs j) → (execOp a.eval o).run P w = .ok (.value (vals.getD i undef)) w)
  (hact : ∀ k i o, B[k]? = some i → l[i]? = some o → ∀ (vs : List Value) (w : World) (a : Act), vs.length = k → R vs w → (∀ t, notDst l n t = true → a.eval (.tmp t) = a0.eval (.tmp t)) →
   (∀ j t, j < n → zbm l i j = true → zd4 l j t = true → a.eval (.tmp t) = valOf B vals vs j) → ∀ (Q : Exit → Act → World → Prop) (K : Act → World → Prop), (∀ v w', R (vs ++ [v]) w' → K (a.put o.dst v) w') → o.wp P a w K Q)
  (hQ : ∀ xs vs w, xs.length = n → vs.length = B.length → R vs w → (∀ i, i < n → xs.getD i undef = valOf B vals vs i) → wpList P l.toArray Q (l.drop n) (za0 a0 (l.take n) xs) w) : (Code.region id l.toArray true).wp P Q a0 w := by
 obtain ⟨hnd, hlt, hch⟩ := zfg hc
 have hlt' := hlt
 refine zdw n (fun L xs w => ∃ vs : List Value, vs.length ≤ B.length ∧ (∀ k i, B[k]? = some i → (L i = true ↔ k < vs.length)) ∧ R vs w ∧ ∀ i, i < n → L i = true → xs.getD i undef = valOf B vals vs i) hm hB hg ?_ (fun xs _ => ⟨[], by simp, by simp, h0, by simp⟩) ?_ ?_
 ·rintro L L' xs w he ⟨vs, h1, h2, h3, h4⟩
  exact ⟨vs, h1, fun k i hk => by rw [← he i (hlt i (List.mem_of_getElem? hk))]; exact h2 k i hk, h3, fun i hi hl => h4 i hi (by rw [he i hi]; exact hl)⟩
 ·rintro i o hi ho L xs W a hlen ⟨vs, h1, h2, h3, h4⟩ hL hw hcl hold hat Q' K hK
  have hat' : ∀ j t, j < n → zbm l i j = true → zd4 l j t = true → a.eval (.tmp t) = valOf B vals vs j := fun j t hj hwj hd => (hat j t hj hd).trans (h4 j hj (hw j hj hwj))
  by_cases hiB : i ∈ B
  ·obtain ⟨k, hk⟩ := List.getElem?_of_mem hiB
   have hk0 : ¬ k < vs.length := fun h => by rw [(h2 k i hk).2 h] at hL; cases hL
   have hkv : vs.length = k := by
    cases k with
    | zero => omega
    | succ k =>
     obtain ⟨hkl, _⟩ := List.getElem?_eq_some_iff.1 hk
     have hk1 : B[k]? = some B[k] := List.getElem?_eq_getElem (by omega)
     have h5 := hch k _ _ hk1 hk
     have h6 := (h2 k _ hk1).1 (hw _ (hlt _ (List.mem_of_getElem? hk1)) h5)
     omega
   obtain ⟨hkl, hke⟩ := List.getElem?_eq_some_iff.1 hk
   refine hact k i o hk ho vs W a hkv h3 hold hat' Q' K fun v w' hr => hK v w' ⟨vs ++ [v], by simp; omega, fun m j hm => ?_, hr, fun j hj hjl => ?_⟩
   ·by_cases hji : j = i
    ·subst hji
     have : m = k := by
      obtain ⟨hml, hme⟩ := List.getElem?_eq_some_iff.1 hm
      exact (List.getElem_inj (h₀ := hml) (h₁ := hkl) hnd).1 (by rw [hme, hke])
     subst this
     simp [ze5]; omega
    ·rw [zag hji, h2 m j hm]
     have : m ≠ k := fun e => by subst e; rw [hk] at hm; cases hm; exact hji rfl
     simp; omega
   ·by_cases hji : j = i
    ·subst hji
     rw [List.getD_eq_getElem?_getD, List.getElem?_set_self (by omega)]
     unfold valOf
     rw [if_pos hiB]
     have : B.idxOf j = vs.length := by
      rw [hkv, ← hke]; exact hnd.idxOf_getElem k hkl
     simp [this]
    ·rw [List.getD_eq_getElem?_getD, List.getElem?_set_ne (Ne.symm hji), ← List.getD_eq_getElem?_getD]
     rw [zag hji] at hjl
     rw [h4 j hj hjl]
     unfold valOf
     split
     ·rename_i hjB
      obtain ⟨m, hm⟩ := List.getElem?_of_mem hjB
      have h6 := (h2 m j hm).1 hjl
      obtain ⟨hml, hme⟩ := List.getElem?_eq_some_iff.1 hm
      have : B.idxOf j = m := by rw [← hme]; exact hnd.idxOf_getElem m hml
      rw [this, List.getD_eq_getElem?_getD, List.getD_eq_getElem?_getD, List.getElem?_append_left h6]
     ·rfl
  ·have hrun := hquiet i o hi hiB ho vs W a (fun k j hk hwj => Nat.le_of_not_lt fun hlt => by
    have h5 := hcl j i (hlt' j (List.mem_of_getElem? hk)) hi ((h2 k j hk).2 hlt) hwj
    rw [h5] at hL; cases hL) h3 hold hat'
   unfold Oper.wp
   rw [hrun]
   refine hK _ _ ⟨vs, h1, fun m j hm => ?_, h3, fun j hj hjl => ?_⟩
   ·have hji : j ≠ i := fun e => hiB (e ▸ List.mem_of_getElem? hm)
    rw [zag hji]; exact h2 m j hm
   ·by_cases hji : j = i
    ·subst hji
     rw [List.getD_eq_getElem?_getD, List.getElem?_set_self (by omega)]
     unfold valOf
     rw [if_neg hiB]; rfl
    ·rw [List.getD_eq_getElem?_getD, List.getElem?_set_ne (Ne.symm hji), ← List.getD_eq_getElem?_getD]
     rw [zag hji] at hjl
     exact h4 j hj hjl
 ·rintro L xs W hlen hL ⟨vs, h1, h2, h3, h4⟩
  refine hQ xs vs W hlen ?_ h3 fun i hi => h4 i hi (hL i hi)
  rcases Nat.lt_or_ge vs.length B.length with h | h
  ·have hk : B[vs.length]? = some B[vs.length] := List.getElem?_eq_getElem h
   have := (h2 _ _ hk).1 (hL _ (hlt _ (List.mem_of_getElem? hk)))
   omega
  ·omega
end Go.Proofs.YtebfoimbdljbmaaGreatDoor

/-
  Copies of values, of entities: each is a thing of its own that reads as the old one. The conditions: they lie in memory as they should.
-/
namespace Go.Proofs.YtebfoimbdljbmaaGreatDoor
open Go.RowKit
open Lib renaming hid → q_
set_option maxRecDepth 100000
set_option maxHeartbeats 800000
def Cloned {α : Type} (R : Rep α) (T : TypeId) (S : Nat → Prop) (l : List α) (w : World) (e : Ending) (w' : World) : Prop :=
 ∃ v xs, e = .returned v ∧ w'.ownsRow w.heap.size T R.size v l.length xs ∧ R.Flat S w l xs ∧ Ext w w'
theorem cloneS_ok {S : Nat → Prop} (l : List ByteArray) (v : Value) (w : World) (hl : strR.RowsAt S w l v) :
  Calls Tryz.prog 61 #[v] w (Cloned strR 9 S l w) := by
 have hl' := hl
 obtain ⟨A, cap, rfl, ⟨hl0, hl1, hl2⟩, hlr⟩ := hl
 obtain ⟨_, xs, hf, hsrc⟩ := rows_src hl'
 rw [zaq] at hl0
 rw [zaj] at hl2
 have HF := q_ hf
 have Hsrc := q_ hsrc
 have HL := q_ (hf.length)
 have H1 := q_ hf.one
 have q58 := fun (w : World) (a : Option Addr) (n c n' c' : Nat) => Lib.run_eql_slice_nil (P := Tryz.prog) w 25 9 a n c n' c' Tryz.underlying25
 obtain ⟨i0, hi, hz0, hz1, hz2⟩ := info_parts Tryz.info9
 clear hl' hlr hf hsrc
 cases A with
 | none =>
  have hn : l = [] := by
   cases l with
   | nil => rfl
   | cons x r => obtain ⟨b, o, h, _⟩ := Hsrc.out (by simp); cases h
  subst hn
  go_enter Tryz.func61, Tryz.ntmps61
  go_wp2_with fail
  go_ret
  exact ⟨_, [], rfl, World.ownsRow_nil _ _ _ _, rfl, Ext.refl w⟩
 | some a =>
  go_enter Tryz.func61, Tryz.ntmps61
  go_wp2_with (at_builtin; refine zbf rfl (.tmp 5) (.tmp 6) 25 rfl w.heap.size 9 i0 _ 1 16 Tryz.underlying25 hi hz0 hz1 hz2 rfl (by decide) _ 0 [] rfl (World.ownsRow_made w #[] 0 (Nat.le_refl _) (Nat.zero_le _) (by simp)) (some a) l.length cap xs rfl HL.out ?q1 H1.out ?q2 ?q3 ?q4 ?_)
  case q1 => exact fun h => let ⟨b, o, e, hc⟩ := Hsrc.out h; ⟨b, o, e, hc.alike (S := fun x => x < w.heap.size) (by
   have h0 : 0 < xs.length := by rw [HL.out]; exact Nat.mul_pos h (by decide)
   have := hc 0 xs[0] (List.getElem?_eq_getElem h0)
   exact block_lt_of_cell this) (Alike.of_ext ((Ext.refl w).alloc _) fun _ h => h)⟩
  case q2 => rw [zaj]; omega
  case q3 => omega
  intro v' w2 hown' hgrow hblk
  have Ho := q_ hown'
  have Hg := q_ hgrow
  clear hown' hgrow hblk
  go_wp2_with fail
  go_ret
  refine ⟨v', xs, rfl, by first | exact Ho.out | (have h := Ho.out; simp only [Nat.zero_add, List.nil_append] at h; exact h), HF.out, zav ((Ext.refl w).alloc _) Hg.out fun b e => ?_⟩
  simp only [Value.ownBlock] at e
  injection e with e
  omega
theorem Rep.Flat.split {α : Type} {R : Rep α} {S : Nat → Prop} {w : World} : ∀ {l : List α} {xs : List Value}, R.Flat S w l xs → ∃ yss : List (List Value), xs = yss.flatten ∧ yss.length = l.length ∧ (∀ y ∈ yss, y.length = R.size ∧ ∀ u ∈ y, u.oneCell' = true) ∧ ∀ (i : Nat) (x : α) (y : List Value), l[i]? = some x → yss[i]? = some y → R.At S w x y
 | [], _, h => by simp only [Rep.Flat] at h; subst h; exact ⟨[], rfl, rfl, by simp, by simp⟩
 | x :: r, _, ⟨c, ys, e, hv, hr⟩ => by
  obtain ⟨yss, h1, h2, h3, h4⟩ := Rep.Flat.split hr
  subst e h1
  refine ⟨c :: yss, by simp, by simp [h2], fun y hy => ?_, fun i z y hz hy => ?_⟩
  ·rcases List.mem_cons.1 hy with rfl | hy
   ·exact ⟨R.len hv, R.one hv⟩
   ·exact h3 y hy
  ·cases i with
   | zero => simp at hz hy; subst hz hy; exact hv
   | succ i => exact h4 i z y (by simpa using hz) (by simpa using hy)
theorem Rep.Flat.join {α : Type} {R : Rep α} {S : Nat → Prop} {w : World} : ∀ {l : List α} {yss : List (List Value)}, yss.length = l.length → (∀ (i : Nat) (x : α) (y : List Value), l[i]? = some x → yss[i]? = some y → R.At S w x y) → R.Flat S w l yss.flatten
 | [], yss, h, _ => by
  have : yss = [] := List.eq_nil_of_length_eq_zero (by simpa using h)
  subst this; rfl
 | x :: r, [], h, _ => by simp at h
 | x :: r, y :: yss, h, k => ⟨y, yss.flatten, by simp, k 0 x y rfl rfl, Rep.Flat.join (by simpa using h) fun i z u hz hu => k (i + 1) z u (by simpa using hz) (by simpa using hu)⟩
theorem flatten_put {sz : Nat} : ∀ {yss : List (List Value)} {j : Nat} {c : List Value}, (∀ y ∈ yss, y.length = sz) → c.length = sz → j < yss.length → yss.flatten.take (j * sz) ++ c ++ yss.flatten.drop (j * sz + sz) = (yss.set j c).flatten
 | [], _, _, _, _, h => by simp at h
 | y :: yss, 0, c, hl, hc, _ => by
  have h1 := hl y (by simp)
  simp only [Nat.zero_mul, List.take_zero, List.nil_append, Nat.zero_add, List.flatten_cons, List.set_cons_zero]
  rw [List.drop_append_of_le_length (by omega), List.drop_eq_nil_of_le (by omega), List.nil_append]
 | y :: yss, j + 1, c, hl, hc, h => by
  have h1 := hl y (by simp)
  have ih := flatten_put (yss := yss) (j := j) (c := c) (fun z hz => hl z (by simp [hz])) hc (by simpa using h)
  simp only [List.flatten_cons, List.set_cons_succ]
  rw [← ih, Nat.succ_mul, List.take_append, List.take_of_length_le (l := y) (by omega), List.drop_append, (List.drop_eq_nil_of_le (by omega) : y.drop (j * sz + sz + sz) = []), List.nil_append]
  rw [show j * sz + sz - y.length = j * sz by omega, show j * sz + sz + sz - y.length = j * sz + sz by omega]
  simp [List.append_assoc]
theorem ownsRow_write {w w' : World} {base : Nat} {T : TypeId} {sz n g cap j : Nat} {yss : List (List Value)} {c : List Value} {cur : Array Value} (h : w.ownsRow base T sz (.slice (some ⟨g, 0, none⟩) n cap) n yss.flatten) (hl : ∀ y ∈ yss, y.length = sz) (hn : yss.length = n) (hc : c.length = sz) (hj : j < n)
  (hg : w.heap[g]? = some (.cells cur T (0, 0))) (hw : w'.heap[g]? = some (.cells (cur.toList.take (j * sz) ++ c ++ cur.toList.drop (j * sz + c.length)).toArray T (0, 0))) : w'.ownsRow base T sz (.slice (some ⟨g, 0, none⟩) n cap) n (yss.set j c).flatten := by
 obtain ⟨h1, hv⟩ := h
 rcases hv with ⟨hv, _⟩ | ⟨g', cap', cur', hv, hge, hh, hnc, hcm, hcur, htake⟩
 ·cases hv
 ·injection hv with e1 _ e3
  injection e1 with e1
  injection e1 with e1 _
  subst e1 e3
  rw [hg] at hh
  injection hh with hh
  injection hh with hh _ _
  subst hh
  have hm : (j + 1) * sz ≤ n * sz := Nat.mul_le_mul_right _ hj
  have hm2 : n * sz ≤ cap * sz := Nat.mul_le_mul_right _ hnc
  rw [Nat.succ_mul] at hm
  have hcl : cur.toList.length = cap * sz := by simpa using hcur
  have hset := flatten_put hl hc (by omega : j < yss.length)
  rw [← htake] at hset h1
  refine ⟨?_, .inr ⟨_, _, _, rfl, hge, hw, hnc, hcm, ?_, ?_⟩⟩
  ·rw [← hset]
   simp [List.length_take, List.length_drop]; omega
  ·simp [List.length_take, List.length_drop]; omega
  ·rw [← hset, hc]
   have hA : (cur.toList.take (j * sz)).length = j * sz := by rw [List.length_take]; omega
   rw [List.append_assoc, List.append_assoc, List.take_append, List.take_of_length_le (l := cur.toList.take (j * sz)) (by omega), hA, List.take_append, List.take_of_length_le (l := c) (by omega), hc, List.take_take, Nat.min_eq_left (by omega), List.drop_take, Nat.sub_sub]
theorem wp_store_cells {P : Program} {o : Oper} {a : Act} {w : World} {K : Act → World → Prop} {Q : Exit → Act → World → Prop} (ty : TypeId) (x y : Operand) (ho : o.op = .store ty x y)
  (g off : Nat) (hx : a.eval x = .pointer (some ⟨g, off, none⟩)) (cs : List Value) (hy : a.eval y = .agg cs.toArray) {n : Nat} (hz : ∀ w, (Go.sizeOf ty).run P w = .ok n w) (hn : cs.length = n)
  (T : TypeId) (cur : Array Value) (hg : w.heap[g]? = some (.cells cur T (0, 0))) (hl : off + cs.length ≤ cur.size) (h1 : ∀ v ∈ cs, v.oneCell' = true)
  (hk : ∀ w', w'.heap[g]? = some (.cells (cur.toList.take off ++ cs ++ cur.toList.drop (off + cs.length)).toArray T (0, 0)) → GrownBy w w' (some g) → K (a.put o.dst undef) w') : o.wp P a w K Q := by
 have hst := run_storeCells_at (P := P) g off T cs 0 cur w hg (by simpa using hl) h1
 simp only [Nat.add_zero] at hst
 have hst' : (storeVar ty ⟨g, off, none⟩ (.agg cs.toArray)).run P w = .ok () (w.setRow g (cur.toList.take off ++ cs ++ cur.toList.drop (off + cs.length)).toArray) := by
  simp [storeVar, hz, Value.cells, hn, hst]
 unfold Oper.wp execOp
 simp only [ho, hx, hy, Instr.storeAt, Instr.sureAddr, Sem.run_bind, Sem.run_pure, Result.andThen_ok, hst']
 exact hk _ (zbi hg _) (GrownBy.setRow _ _ _)
theorem Tryz.infoV : (Tryz.prog.info? 27).map (fun i => (i.zero, i.size, i.bytes)) = some (some (.agg zeroCells.toArray), 8, 120) := by kernel_rfl
theorem cloneV_ok {S : Nat → Prop} (l : List Val) (v : Value) (w : World) (hl : valR.RowsAt S w l v) :
  Calls Tryz.prog 230 #[v] w (Cloned valR 27 S l w) := by
 have hl' := hl
 obtain ⟨A, cap, rfl, ⟨hl0, hl1, hl2⟩, hlr⟩ := hl
 obtain ⟨_, xs, hf, hsrc⟩ := rows_src hl'
 rw [zaq] at hl0
 rw [zaj] at hl2
 have HF := q_ hf
 have Hsrc := q_ hsrc
 have HL := q_ (hf.length)
 have H1 := q_ hf.one
 have q58 := fun (w : World) (a : Option Addr) (n c n' c' : Nat) => Lib.run_eql_slice_nil (P := Tryz.prog) w 24 27 a n c n' c' Tryz.underlying24
 obtain ⟨i0, hi, hz0, hz1, hz2⟩ := info_parts Tryz.infoV
 clear hl' hlr hf hsrc
 cases A with
 | none =>
  have hn : l = [] := by
   cases l with
   | nil => rfl
   | cons x r => obtain ⟨b, o, h, _⟩ := Hsrc.out (by simp); cases h
  subst hn
  go_enter Tryz.func230, Tryz.ntmps230
  go_wp2_with fail
  go_ret
  exact ⟨_, [], rfl, World.ownsRow_nil _ _ _ _, rfl, Ext.refl w⟩
 | some a =>
  go_enter Tryz.func230, Tryz.ntmps230
  go_wp2_with (at_builtin; refine zbf rfl (.tmp 5) (.tmp 6) 24 rfl w.heap.size 27 i0 _ 8 120 Tryz.underlying24 hi hz0 hz1 hz2 rfl (by decide) _ 0 [] rfl (World.ownsRow_made w #[] 0 (Nat.le_refl _) (Nat.zero_le _) (by simp)) (some a) l.length cap xs rfl HL.out ?q1 H1.out ?q2 ?q3 ?q4 ?_)
  case q1 => exact fun h => let ⟨b, o, e, hc⟩ := Hsrc.out h; ⟨b, o, e, hc.alike (S := fun x => x < w.heap.size) (by
   have h0 : 0 < xs.length := by rw [HL.out]; exact Nat.mul_pos h (by decide)
   have := hc 0 xs[0] (List.getElem?_eq_getElem h0)
   exact block_lt_of_cell this) (Alike.of_ext ((Ext.refl w).alloc _) fun _ h => h)⟩
  case q2 => rw [zaj]; omega
  case q3 => omega
  intro v' w2 hown' hgrow hblk
  have Ho := q_ hown'
  have Hg := q_ hgrow
  clear hown' hgrow hblk
  go_wp2_with fail
  go_ret
  refine ⟨v', xs, rfl, by first | exact Ho.out | (have h := Ho.out; simp only [Nat.zero_add, List.nil_append] at h; exact h), HF.out, zav ((Ext.refl w).alloc _) Hg.out fun b e => ?_⟩
  simp only [Value.ownBlock] at e
  injection e with e
  omega
end Go.Proofs.YtebfoimbdljbmaaGreatDoor

/-
  The program's copy of a value. The conditions: the value lies in memory as it should.
-/
namespace Go.Proofs.YtebfoimbdljbmaaGreatDoor
open Go.RowKit
open Lib renaming hid → q_
set_option maxRecDepth 100000
set_option maxHeartbeats 4000000
structure CopySt (k : Int) (bo : Bool) (i : Int) (t ut ui : ByteArray) (B1 : Nat) (w1 : World) (it nm : Value) (W : World) : Prop where
 box : W.heap[B1]? = some (.cells #[.int .i64 k, .bool bo, .int .i64 i, .string t, .string ut, .string ui, it, nm] 27 (0, 0))
 grown : GrownBy w1 W (some B1)
def NamesAt (w1 : World) (names : List ByteArray) (v : Value) (W : World) : Prop := W.ownsRow w1.heap.size 9 1 v names.length (names.map Value.string)
def ItemsAt (S : Nat → Prop) (w1 : World) (items : List Val) (v : Value) (W : World) : Prop := ∃ xs, W.ownsRow w1.heap.size 27 8 v items.length xs ∧ valR.Flat S w1 items xs
def StageK (S : Nat → Prop) (k : Int) (bo : Bool) (i : Int) (t ut ui : ByteArray) (B1 : Nat) (w1 : World) (items : List Val) (names : List ByteArray) (i0 n0 : Value) : List Value → World → Prop
 | [], W => CopySt k bo i t ut ui B1 w1 i0 n0 W
 | [vn], W => CopySt k bo i t ut ui B1 w1 i0 n0 W ∧ NamesAt w1 names vn W
 | [vn, vi], W => CopySt k bo i t ut ui B1 w1 i0 n0 W ∧ NamesAt w1 names vn W ∧ ItemsAt S w1 items vi W
 | [vn, vi, _], W => CopySt k bo i t ut ui B1 w1 i0 vn W ∧ NamesAt w1 names vn W ∧ ItemsAt S w1 items vi W
 | [vn, vi, _, _], W => CopySt k bo i t ut ui B1 w1 vi vn W ∧ NamesAt w1 names vn W ∧ ItemsAt S w1 items vi W
 | _, _ => False
theorem CopySt.ext {k : Int} {bo : Bool} {i : Int} {t ut ui : ByteArray} {B1 : Nat} {w1 : World} {it nm : Value} {W W' : World} (h : CopySt k bo i t ut ui B1 w1 it nm W) (x : Ext W W') : CopySt k bo i t ut ui B1 w1 it nm W' :=
 ⟨(x.block _ (zaf h.box)).trans h.box, h.grown.trans (GrownBy.of_ext _ x)⟩
theorem ItemsAt.ext {S : Nat → Prop} {w1 : World} {items : List Val} {v : Value} {W W' : World} (h : ItemsAt S w1 items v W) (x : Ext W W') : ItemsAt S w1 items v W' := let ⟨xs, h1, h2⟩ := h; ⟨xs, zam h1 x, h2⟩
theorem NamesAt.apart {w1 : World} {names : List ByteArray} {v : Value} {W W' : World} {B : Nat} (h : NamesAt w1 names v W) (g : GrownBy W W' (some B)) (hB : B < w1.heap.size) : NamesAt w1 names v W' :=
 zau h g fun b hb e => by have := (h.lt b hb).1; injection e with e; omega
theorem ItemsAt.apart {S : Nat → Prop} {w1 : World} {items : List Val} {v : Value} {W W' : World} {B : Nat} (h : ItemsAt S w1 items v W) (g : GrownBy W W' (some B)) (hB : B < w1.heap.size) : ItemsAt S w1 items v W' := by
 obtain ⟨xs, h1, h2⟩ := h
 exact ⟨xs, zau h1 g fun b hb e => by have := (h1.lt b hb).1; injection e with e; omega, h2⟩
theorem strs_of_flat {S : Nat → Prop} {w : World} : ∀ {l : List ByteArray} {xs : List Value}, strR.Flat S w l xs → xs = l.map Value.string ∧ ∀ s ∈ l, s.size ≤ maxLen
 | [], _, h => by simp only [Rep.Flat] at h; subst h; exact ⟨rfl, by simp⟩
 | x :: r, _, ⟨c, ys, e, hv, hr⟩ => by
  obtain ⟨h1, h2⟩ := strs_of_flat hr
  obtain ⟨hv1, hv2⟩ := hv
  subst e hv1 h1
  exact ⟨rfl, fun s hs => by
   rcases List.mem_cons.1 hs with rfl | hs
   ·exact hv2
   ·exact h2 s hs⟩
def FreshU (base : Nat) (w : World) (b : Nat) : Prop := base ≤ b ∧ ∃ cur T, w.heap[b]? = some (.cells cur T (0, 0))
def MadeU (base : Nat) (w : World) (v : Value) (b : Nat) : Prop := base ≤ b ∧ (∃ cur T, w.heap[b]? = some (.cells cur T (0, 0))) ∧ v.ownBlock ≠ some b
theorem FreshU.lt {base : Nat} {w : World} {b : Nat} (h : FreshU base w b) : b < w.heap.size := let ⟨_, _, h⟩ := h.2; zaf h
theorem FreshU.ext {base : Nat} {w w' : World} {b : Nat} (h : FreshU base w b) (x : Ext w w') : FreshU base w' b := let ⟨c, T, k⟩ := h.2; ⟨h.1, c, T, (x.block b (zaf k)).trans k⟩
theorem FreshU.low {base base' : Nat} {w : World} {b : Nat} (h : FreshU base w b) (k : base' ≤ base) : FreshU base' w b := ⟨Nat.le_trans k h.1, h.2⟩
theorem FreshU.grown {base : Nat} {w w' : World} {b : Nat} {r : Option Nat} (h : FreshU base w b) (x : GrownBy w w' r) (hr : some b ≠ r) : FreshU base w' b := let ⟨c, T, k⟩ := h.2; ⟨h.1, c, T, (x.block b (zaf k) hr).trans k⟩
theorem MadeU.lt {base : Nat} {w : World} {v : Value} {b : Nat} (h : MadeU base w v b) : b < w.heap.size := let ⟨_, _, h⟩ := h.2.1; zaf h
theorem MadeU.fresh {base : Nat} {w : World} {v : Value} {b : Nat} (h : MadeU base w v b) : FreshU base w b := ⟨h.1, h.2.1⟩
theorem own_free {w : World} {base : Nat} {T : TypeId} {sz n : Nat} {v : Value} {xs : List Value} (h : w.ownsRow base T sz v n xs) {b : Nat} (hb : v.ownBlock = some b) : FreshU base w b := by
 obtain ⟨_, hv⟩ := h
 rcases hv with ⟨rfl, _⟩ | ⟨g, cap, cur, rfl, hge, hh, _⟩
 ·cases hb
 ·obtain rfl : g = b := Option.some.inj hb
  exact ⟨hge, cur, T, hh⟩
def MixAt (S : Nat → Prop) (w1 : World) (items : List Val) (j : Nat) (v : Value) (W : World) : Prop :=
 ∃ yss : List (List Value), W.ownsRow w1.heap.size 27 8 v items.length yss.flatten ∧ yss.length = items.length ∧ (∀ y ∈ yss, y.length = 8 ∧ ∀ u ∈ y, u.oneCell' = true) ∧
  ∀ (a : Nat) (x : Val) (y : List Value), items[a]? = some x → yss[a]? = some y → if a < j then Val.At (MadeU w1.heap.size W v) W x y else Val.At S w1 x y
theorem ItemsAt.mix {S : Nat → Prop} {w1 : World} {items : List Val} {v : Value} {W : World} (h : ItemsAt S w1 items v W) : MixAt S w1 items 0 v W := by
 obtain ⟨xs, h1, h2⟩ := h
 obtain ⟨yss, e, h3, h4, h5⟩ := h2.split
 subst e
 exact ⟨yss, h1, h3, h4, fun a x y hx hy => by rw [if_neg (by omega)]; exact h5 a x y hx hy⟩
theorem MixAt.ext {S : Nat → Prop} {w1 : World} {items : List Val} {j : Nat} {v : Value} {W W' : World} (h : MixAt S w1 items j v W) (x : Ext W W') : MixAt S w1 items j v W' := by
 obtain ⟨yss, h1, h2, h3, h4⟩ := h
 refine ⟨yss, zam h1 x, h2, h3, fun a z y hz hy => ?_⟩
 have h5 := h4 a z y hz hy
 by_cases ha : a < j
 ·rw [if_pos ha] at h5 ⊢
  exact (h5.alike (Alike.of_ext x fun b hb => hb.lt)).mono fun b hb => ⟨hb.1, (hb.fresh.ext x).2, hb.2.2⟩
 ·rw [if_neg ha] at h5 ⊢
  exact h5
theorem MixAt.old {S : Nat → Prop} {w1 : World} {items : List Val} {j g n cap : Nat} {W : World} (h : MixAt S w1 items j (.slice (some ⟨g, 0, none⟩) n cap) W) {x : Val} (hx : items[j]? = some x) : ∃ y, CellsAt W g (j * 8) y ∧ Val.At S w1 x y ∧ y.length = 8 := by
 obtain ⟨yss, h1, h2, h3, h4⟩ := h
 have hj := (List.getElem?_eq_some_iff.1 hx).1
 obtain ⟨y, hy⟩ : ∃ y, yss[j]? = some y := ⟨_, List.getElem?_eq_getElem (by omega)⟩
 have h5 := h4 j x y hx hy
 rw [if_neg (by omega)] at h5
 obtain ⟨g', cap', hv, hg, hnc, hcm, hc⟩ := own_cells h1 (by omega)
 injection hv with e1 _ _
 injection e1 with e1
 injection e1 with e1 _
 subst e1
 refine ⟨y, fun a u ha => ?_, h5, (h3 y (List.mem_of_getElem? hy)).1⟩
 have := hc (j * 8 + a) u (zce (fun r hr => (h3 r hr).1) hy ha)
 rwa [Nat.zero_add] at this
theorem MixAt.next {S : Nat → Prop} {w1 : World} {items : List Val} {j g n cap : Nat} {W W2 W3 : World} {x : Val} {c : List Value} {cur : Array Value} (h : MixAt S w1 items j (.slice (some ⟨g, 0, none⟩) n cap) W) (hx : items[j]? = some x) (k : Ext W W2) (hc : Val.At (FreshU W.heap.size W2) W2 x c)
  (hg : W2.heap[g]? = some (.cells cur 27 (0, 0))) (hw : W3.heap[g]? = some (.cells (cur.toList.take (j * 8) ++ c ++ cur.toList.drop (j * 8 + c.length)).toArray 27 (0, 0))) (hgr : GrownBy W2 W3 (some g)) : MixAt S w1 items (j + 1) (.slice (some ⟨g, 0, none⟩) n cap) W3 := by
 obtain ⟨yss, h1, h2, h3, h4⟩ := h.ext k
 have hj := (List.getElem?_eq_some_iff.1 hx).1
 have hlt := (h1.lt g rfl)
 have hlt0 : g < W.heap.size := by
  obtain ⟨_, h1', _⟩ := h
  exact (h1'.lt g rfl).2
 have hb : w1.heap.size ≤ W.heap.size := by omega
 have h9 : n = items.length := by
  obtain ⟨A', c', e⟩ := zaz h1
  injection e
 subst h9
 have hs3 := hgr.size
 refine ⟨yss.set j c, ownsRow_write h1 (fun y hy => (h3 y hy).1) h2 hc.length hj hg hw, by simpa using h2, fun y hy => ?_, fun a z y hz hy => ?_⟩
 ·rcases List.mem_or_eq_of_mem_set hy with hy | rfl
  ·exact h3 y hy
  ·exact ⟨hc.length, hc.one⟩
 ·by_cases ha : a = j
  ·subst ha
   rw [List.getElem?_set_self (by omega)] at hy
   obtain rfl := Option.some.inj hy
   rw [hx] at hz
   obtain rfl := Option.some.inj hz
   rw [if_pos (by omega)]
   refine Val.At.mono (S := FreshU W.heap.size W2) ?_ _ _ (hc.alike fun b hb => hgr.block b hb.lt fun e => by injection e with e; have := hb.1; omega)
   intro b hb'
   have e1 := hb'.1
   exact ⟨by omega, (hb'.grown hgr fun e => by injection e with e; omega).2, fun e => by have e3 : g = b := Option.some.inj (show some g = some b from e); omega⟩
  ·rw [List.getElem?_set_ne (Ne.symm ha)] at hy
   have h5 := h4 a z y hz hy
   by_cases hlt2 : a < j
   ·rw [if_pos hlt2] at h5
    rw [if_pos (by omega)]
    refine Val.At.mono (S := MadeU w1.heap.size W2 (.slice (some ⟨g, 0, none⟩) items.length cap)) ?_ _ _ (h5.alike fun b hb => hgr.block b hb.lt fun e => by injection e with e; exact hb.2.2 (by subst e; rfl))
    intro b hb'
    exact ⟨hb'.1, (hb'.fresh.grown hgr fun e => by injection e with e; exact hb'.2.2 (by subst e; rfl)).2, hb'.2.2⟩
   ·rw [if_neg hlt2] at h5
    rw [if_neg (by omega)]
    exact h5
theorem MixAt.all {S : Nat → Prop} {w1 : World} {items : List Val} {v : Value} {W : World} (h : MixAt S w1 items items.length v W) : ∃ xs, W.ownsRow w1.heap.size 27 8 v items.length xs ∧ valR.Flat (MadeU w1.heap.size W v) W items xs := by
 obtain ⟨yss, h1, h2, h3, h4⟩ := h
 refine ⟨_, h1, Rep.Flat.join h2 fun a x y hx hy => ?_⟩
 have h5 := h4 a x y hx hy
 rw [if_pos (List.getElem?_eq_some_iff.1 hx).1] at h5
 exact h5
def StageC (wr wb : World) (S : Nat → Prop) (k : Int) (bo : Bool) (i : Int) (t ut ui : ByteArray) (B1 : Nat) (w1 : World) (items : List Val) (names : List ByteArray) (j : Nat) (vi vn : Value) (x : Val) : List Value → World → Prop
 | [], W => Ext wb W
 | [vc], W => Ext wb W ∧ ∃ cs : List Value, vc = .agg cs.toArray ∧ Val.At (FreshU wr.heap.size W) W x cs
 | [_, _], W => CopySt k bo i t ut ui B1 w1 vi vn W ∧ NamesAt w1 names vn W ∧ MixAt S w1 items (j + 1) vi W
 | _, _ => False
theorem lst7 {α : Type} {l : List α} (h : l.length = 7) : ∃ a0 a1 a2 a3 a4 a5 a6, l = [a0, a1, a2, a3, a4, a5, a6] := by
 match l, h with
 | [_, _, _, _, _, _, _], _ => exact ⟨_, _, _, _, _, _, _, rfl⟩
theorem CopySt.apart {k : Int} {bo : Bool} {i : Int} {t ut ui : ByteArray} {B1 : Nat} {w1 : World} {it nm : Value} {W W' : World} (h : CopySt k bo i t ut ui B1 w1 it nm W) {g : Nat} (x : GrownBy W W' (some g)) (hg : w1.heap.size ≤ g) (hB : B1 < w1.heap.size) : CopySt k bo i t ut ui B1 w1 it nm W' :=
 ⟨(x.block _ (zaf h.box) fun e => by injection e with e; omega).trans h.box, ⟨⟨x.os.trans h.grown.os, x.tape.trans h.grown.tape, x.output.trans h.grown.output, Nat.le_trans h.grown.size x.size, fun b hb hne => (x.block b (Nat.lt_of_lt_of_le hb h.grown.size) fun e => by injection e with e; omega).trans (h.grown.block b hb hne)⟩, Nat.le_trans h.grown.drawn x.drawn⟩⟩
theorem NamesAt.apart2 {w1 : World} {names : List ByteArray} {v : Value} {W W' : World} {r : Option Nat} (h : NamesAt w1 names v W) (g : GrownBy W W' r) (hB : ∀ b, v.ownBlock = some b → r ≠ some b) : NamesAt w1 names v W' := zau h g hB
def CopiedV (x : Val) (w : World) (e : Ending) (w' : World) : Prop := ∃ cs : List Value, e = .returned (.agg cs.toArray) ∧ Val.At (FreshU w.heap.size w') w' x cs ∧ Ext w w'
theorem clone_ok (n : Nat) : ∀ (x : Val) (S : Nat → Prop) (w : World) (cs : List Value), SizeOf.sizeOf x ≤ n → (∀ b, S b → b < w.heap.size) → Val.At S w x cs →
  Calls Tryz.prog 224 #[.agg cs.toArray] w (CopiedV x w) := by
 induction n with
 | zero => intro x; cases x; simp
 | succ n ih =>
  intro x S w cs hn hS hx
  cases x with
  | mk k bo i t ut ui items names =>
  unfold Val.At at hx
  obtain ⟨A, cap, nv, rfl, hbd, ⟨hb1, hb2, hb3⟩, hit, hnm⟩ := hx
  have hir : valR.RowsAt S w items (.slice A items.length cap) := valsAt_iff.1 ⟨A, cap, rfl, ⟨hb1, hb2, hb3⟩, hit⟩
  have hnr := strsAt_rows hnm
  obtain ⟨A2, cap2, rfl, hm1, hm2, hm3, hm4, _⟩ := hnm
  have HBd := q_ hbd
  have HS := q_ hS
  have Hn := q_ hn
  have IH := q_ ih
  have HIr := q_ hir
  have HNr := q_ hnr
  have HM4 := q_ hm4
  rw [zaq] at hb1 hm1
  rw [zaj] at hb3 hm3
  clear hbd hit hir hnr hS hn ih hm4
  go_enter Tryz.func224, Tryz.ntmps224
  go_wp2_with fail
  obtain ⟨w1, hw1⟩ : ∃ w1, w1 = (w.alloc (.cells #[.int .i64 k, .bool bo, .int .i64 i, .string t, .string ut, .string ui, .slice A items.length cap, .slice A2 names.length cap2] 27)).alloc (.cells zeroCells.toArray 27) := ⟨_, rfl⟩
  have h2 := heap2 w (.cells #[.int .i64 k, .bool bo, .int .i64 i, .string t, .string ut, .string ui, .slice A items.length cap, .slice A2 names.length cap2] 27) (.cells zeroCells.toArray 27)
  change Code.wp _ _ _ _ ((w.alloc (.cells #[.int .i64 k, .bool bo, .int .i64 i, .string t, .string ut, .string ui, .slice A items.length cap, .slice A2 names.length cap2] 27)).alloc (.cells zeroCells.toArray 27))
  rw [← hw1] at h2 ⊢
  obtain ⟨q0, q1, qs, qx⟩ := h2
  have HSt0 : Hid (CopySt k bo i t ut ui w.heap.size w1 (.slice A items.length cap) (.slice A2 names.length cap2) w1) := q_ ⟨q0, GrownBy.of_ext _ (Ext.refl _)⟩
  have HQ1 := q_ q1
  have HQX := q_ qx
  have HQS := q_ qs
  clear q0 q1 qs qx hw1
  have hB1 : w.heap.size < w1.heap.size := by have := HQS.out; omega
  have HS1 : Hid (∀ b, S b → b < w1.heap.size) := q_ fun b hb => Nat.lt_of_lt_of_le (HS.out b hb) HQX.out.size
  refine staged_regionW 10 [2, 5, 7, 9] [.pointer (some ⟨w.heap.size, 7, none⟩), .slice A2 names.length cap2, undef, .pointer (some ⟨w.heap.size, 6, none⟩), .slice A items.length cap, undef, .pointer (some ⟨w.heap.size, 7, none⟩), undef, .pointer (some ⟨w.heap.size, 6, none⟩), undef]
   (StageK S k bo i t ut ui w.heap.size w1 items names (.slice A items.length cap) (.slice A2 names.length cap2)) (by kernel_rfl) (by kernel_rfl) (by kernel_rfl) (by kernel_rfl)
   (HSt0.out.ext (show Ext w1 w1.drew from ⟨⟨rfl, rfl, rfl, Nat.le_refl _, fun _ _ => rfl⟩, Nat.le_succ _⟩)) (fun i' op hi hn ho vs W a hdone hRR hold hat => ?_) (fun k' i' op hk ho vs W a hvl hRR hold hat Q' K hK => ?_) ?_
  ·rcases (by simp at hn; omega : i' = 0 ∨ i' = 1 ∨ i' = 3 ∨ i' = 4 ∨ i' = 6 ∨ i' = 8) with rfl | rfl | rfl | rfl | rfl | rfl <;> obtain rfl := Option.some.inj ho
   ·exact za8 _ _ _ rfl (hold 1 (by kernel_rfl)) (zbv w.heap.size).1
   ·have hlen := hdone 2 7 rfl (by kernel_rfl)
    have hbox : W.heap[w.heap.size]? = some (.cells #[.int .i64 k, .bool bo, .int .i64 i, .string t, .string ut, .string ui, .slice A items.length cap, .slice A2 names.length cap2] 27 (0, 0)) := by
     match vs, hRR, hlen with
     | [], h, _ => exact CopySt.box h
     | [_], h, _ => exact h.1.box
     | [_, _], h, _ => exact h.1.box
     | _ :: _ :: _ :: _, _, h => simp at h
    exact za9 _ _ rfl w.heap.size 7 (hat 0 5 (by omega) (by kernel_rfl) (by kernel_rfl)) Tryz.agg25 (by rw [cell_of_row _ _ _ _ _ _ hbox]; rfl)
   ·exact za8 _ _ _ rfl (hold 1 (by kernel_rfl)) (zbv w.heap.size).2.1
   ·have hlen := hdone 3 9 rfl (by kernel_rfl)
    have hbox : ∃ nm, W.heap[w.heap.size]? = some (.cells #[.int .i64 k, .bool bo, .int .i64 i, .string t, .string ut, .string ui, .slice A items.length cap, nm] 27 (0, 0)) := by
     match vs, hRR, hlen with
     | [], h, _ => exact ⟨_, CopySt.box h⟩
     | [_], h, _ => exact ⟨_, h.1.box⟩
     | [_, _], h, _ => exact ⟨_, h.1.box⟩
     | [_, _, _], h, _ => exact ⟨_, h.1.box⟩
     | _ :: _ :: _ :: _ :: _, _, h => simp at h
    obtain ⟨nm, hbox⟩ := hbox
    exact za9 _ _ rfl w.heap.size 6 (hat 3 8 (by omega) (by kernel_rfl) (by kernel_rfl)) Tryz.agg24 (by rw [cell_of_row _ _ _ _ _ _ hbox]; rfl)
   ·exact za8 _ _ _ rfl (hold 1 (by kernel_rfl)) (zbv w.heap.size).1
   ·exact za8 _ _ _ rfl (hold 1 (by kernel_rfl)) (zbv w.heap.size).2.1
  ·have hk4 : k' < 4 := by simpa using (List.getElem?_eq_some_iff.1 hk).1
   rcases (by omega : k' = 0 ∨ k' = 1 ∨ k' = 2 ∨ k' = 3) with rfl | rfl | rfl | rfl <;> obtain rfl := Option.some.inj hk <;> obtain rfl := Option.some.inj ho
   ·obtain rfl := List.eq_nil_of_length_eq_zero hvl
    have hR0 : CopySt k bo i t ut ui w.heap.size w1 (.slice A items.length cap) (.slice A2 names.length cap2) W := hRR
    refine zc3 (Φ := fun v w' => CopySt k bo i t ut ui w.heap.size w1 (.slice A items.length cap) (.slice A2 names.length cap2) w' ∧ NamesAt w1 names v w') (zco Tryz.func61 rfl rfl rfl (map_one (hat 1 6 (by omega) (by kernel_rfl) (by kernel_rfl)))) ?_ (fun v w' h => hK _ _ h)
    refine (cloneS_ok names (.slice A2 names.length cap2) W (HNr.out.alike fun b hb => ?_)).mono ?_
    ·have h1 := HS.out b hb
     rw [hR0.grown.block b (HS1.out b hb) (fun e => by injection e with e; omega)]
     exact HQX.out.block b h1
    ·rintro e w' ⟨v', xs, rfl, h1, h2, h3⟩
     obtain ⟨rfl, _⟩ := strs_of_flat h2
     exact ⟨_, rfl, hR0.ext h3, zcy h1 hR0.grown.size⟩
   ·obtain ⟨v1, rfl⟩ := lst1 hvl
    obtain ⟨hR0, hN⟩ := hRR
    refine zc3 (Φ := fun v w' => CopySt k bo i t ut ui w.heap.size w1 (.slice A items.length cap) (.slice A2 names.length cap2) w' ∧ NamesAt w1 names v1 w' ∧ ItemsAt S w1 items v w') (zco Tryz.func230 rfl rfl rfl (map_one (hat 4 9 (by omega) (by kernel_rfl) (by kernel_rfl)))) ?_ (fun v w' h => hK _ _ h)
    have hal : Alike S w W := fun b hb => by
     have h1 := HS.out b hb
     rw [hR0.grown.block b (HS1.out b hb) (fun e => by injection e with e; omega)]
     exact HQX.out.block b h1
    have hal2 : Alike S W w1 := fun b hb => (hR0.grown.block b (HS1.out b hb) (fun e => by have h1 := HS.out b hb; injection e with e; omega)).symm
    refine (cloneV_ok items (.slice A items.length cap) W (HIr.out.alike hal)).mono ?_
    rintro e w' ⟨v', xs, rfl, h1, h2, h3⟩
    exact ⟨_, rfl, hR0.ext h3, zam hN h3, xs, zcy h1 hR0.grown.size, h2.alike hal2⟩
   ·obtain ⟨v1, v2, rfl⟩ := lst2 hvl
    obtain ⟨hR0, hN, hI⟩ := hRR
    obtain ⟨An, cn, rfl⟩ := zaz hN
    refine ze2 _ _ _ rfl w.heap.size 7 (hat 6 11 (by omega) (by kernel_rfl) (by kernel_rfl)) An names.length cn (hat 2 7 (by omega) (by kernel_rfl) (by kernel_rfl)) (fun _ => by kernel_rfl) 27 _ hR0.box (by simp) (fun w' hb' hg' => hK _ _ ⟨⟨by rw [hb']; rfl, hR0.grown.trans hg'⟩, hN.apart hg' hB1, hI.apart hg' hB1⟩)
   ·obtain ⟨v1, v2, v3, rfl⟩ := lst3 hvl
    obtain ⟨hR0, hN, hI⟩ := hRR
    obtain ⟨Ai, ci, rfl⟩ := zaz hI.choose_spec.1
    refine ze2 _ _ _ rfl w.heap.size 6 (hat 8 12 (by omega) (by kernel_rfl) (by kernel_rfl)) Ai items.length ci (hat 5 10 (by omega) (by kernel_rfl) (by kernel_rfl)) (fun _ => by kernel_rfl) 27 _ hR0.box (by simp) (fun w' hb' hg' => hK _ _ ⟨⟨by rw [hb']; rfl, hR0.grown.trans hg'⟩, hN.apart hg' hB1, hI.apart hg' hB1⟩)
  ·intro zs vs W hzl hvl hRR hzs
   obtain ⟨v1, v2, v3, v4, rfl⟩ := lst4 hvl
   obtain ⟨z0, z1, z2, z3, z4, z5, z6, z7, z8, z9, rfl⟩ := lst10 hzl
   obtain ⟨hst, hN, hI⟩ := hRR
   obtain ⟨Ai, ci, rfl⟩ := zaz hI.choose_spec.1
   have HSt := q_ hst
   have HN := q_ hN
   have HMx := q_ hI.mix
   clear hzs hzl hvl hst hN hI
   simp only [List.take, List.drop, za0, Act.put, List.setIfInBounds_toArray, List.set_cons_zero, List.set_cons_succ]
   have c6 := cell_of_row _ _ 6 _ _ _ HSt.out.box
   simp at c6
   go_wp2_with fail
   go_loopw [16] (fun j' wr => ∃ j : Nat, j ≤ items.length ∧ j' = .int .i64 j ∧ Hid (CopySt k bo i t ut ui w.heap.size w1 (.slice Ai items.length ci) v1 wr) ∧ Hid (NamesAt w1 names v1 wr) ∧ Hid (MixAt S w1 items j (.slice Ai items.length ci) wr)) (fun j' _ => items.length - (intOf j').toNat)
   case atStart => exact ⟨0, Nat.zero_le _, rfl, HSt, HN, HMx⟩
   case round =>
    clear HSt HN HMx c6
    obtain ⟨j, hj, rfl, HSt, HN, HMx⟩ := hrel
    by_cases hlt : j < items.length
    ·obtain ⟨x, hx⟩ : ∃ x, items[j]? = some x := ⟨_, List.getElem?_eq_getElem hlt⟩
     obtain ⟨yss, o1, -, -, -⟩ := HMx.out
     obtain ⟨g, cap', hv, hg1, hnc, hcm, -⟩ := own_cells o1 (by omega)
     have hgl := (o1.lt g (by rw [hv]; rfl)).2
     injection hv with e1 _ e3
     subst e1 e3
     rw [zaj] at hcm
     obtain ⟨y, hcy, hvy, hyl⟩ := HMx.out.old hx
     obtain ⟨ka, ba, na, ta, uta, uia, Aa, la, ca, Ab, lb, cb, rfl⟩ := hvy.shape
     have Hcy := q_ hcy
     have Hvy := q_ hvy
     have Hx := q_ hx
     have Hg1 := q_ hg1
     clear hx hcy hvy hyl o1 yss hg1
     go_wp2_with (refine zab rfl 27 _ rfl g (j * 8) rfl zae zaa rfl Hcy.out ?_)
     obtain ⟨wb, hwb⟩ : ∃ wb : World, wb = wr.alloc (.cells [.int .i64 ka, .bool ba, .int .i64 na, .string ta, .string uta, .string uia, .slice Aa la ca, .slice Ab lb cb].toArray 27) := ⟨_, rfl⟩
     change Code.wp _ _ _ _ (wr.alloc (.cells [.int .i64 ka, .bool ba, .int .i64 na, .string ta, .string uta, .string uia, .slice Aa la ca, .slice Ab lb cb].toArray 27))
     rw [← hwb]
     have HXb : Hid (Ext wr wb) := q_ (by rw [hwb]; exact (Ext.refl wr).alloc _)
     have HBb : Hid (wb.heap[wr.heap.size]? = some (.cells [.int .i64 ka, .bool ba, .int .i64 na, .string ta, .string uta, .string uia, .slice Aa la ca, .slice Ab lb cb].toArray 27 (0, 0))) := q_ (by rw [hwb]; exact heap_alloc_new _ _)
     have HSt2 := q_ (HSt.out.ext HXb.out)
     have HN2 : Hid (NamesAt w1 names v1 wb) := q_ (zam HN.out HXb.out)
     have HMx2 := q_ HMx.out
     clear hwb
     refine staged_regionW 7 [4, 6] [.pointer (some ⟨w.heap.size, 6, none⟩), .slice (some ⟨g, 0, none⟩) items.length ci, .int .i64 j, .agg #[.int .i64 ka, .bool ba, .int .i64 na, .string ta, .string uta, .string uia, .slice Aa la ca, .slice Ab lb cb], undef, .pointer (some ⟨g, 0 + j * 8, none⟩), undef]
      (StageC wr wb S k bo i t ut ui w.heap.size w1 items names j (.slice (some ⟨g, 0, none⟩) items.length ci) v1 x) (by kernel_rfl) (by kernel_rfl) (by kernel_rfl) (by kernel_rfl)
      (show Ext wb wb.drew from ⟨⟨rfl, rfl, rfl, Nat.le_refl _, fun _ _ => rfl⟩, Nat.le_succ _⟩) (fun i' op hi hn ho vs W a hdone hRR hold hat => ?_) (fun k' i' op hk ho vs W a hvl hRR hold hat Q' K hK => ?_) ?_
     ·rcases (by simp at hn; omega : i' = 0 ∨ i' = 1 ∨ i' = 2 ∨ i' = 3 ∨ i' = 5) with rfl | rfl | rfl | rfl | rfl <;> obtain rfl := Option.some.inj ho
      ·exact za8 _ _ _ rfl (hold 1 (by kernel_rfl)) (zbv w.heap.size).2.1
      ·have hlen := hdone 1 6 rfl (by kernel_rfl)
       have hxW : Ext wb W := by
        match vs, hRR, hlen with
        | [], h, _ => exact h
        | [_], h, _ => exact h.1
        | _ :: _ :: _, _, h => simp at h
       exact za9 _ _ rfl w.heap.size 6 (hat 0 21 (by omega) (by kernel_rfl) (by kernel_rfl)) Tryz.agg24 (by rw [cell_of_row _ _ _ _ _ _ ((hxW.block _ (zaf HSt2.out.box)).trans HSt2.out.box)]; rfl)
      ·exact zbd rfl (hold 3 (by kernel_rfl))
      ·have hlen := hdone 0 4 rfl (by kernel_rfl)
       obtain rfl : vs = [] := List.eq_nil_of_length_eq_zero (by omega)
       have hxW : Ext wb W := hRR
       exact zat _ _ rfl wr.heap.size 0 (hold 4 (by kernel_rfl)) (cs := [.int .i64 ka, .bool ba, .int .i64 na, .string ta, .string uta, .string uia, .slice Aa la ca, .slice Ab lb cb]) zae zaa rfl (zak ((hxW.block _ (zaf HBb.out)).trans HBb.out))
      ·exact zc0 (i := j) rfl (hat 1 22 (by omega) (by kernel_rfl) (by kernel_rfl)) (hat 2 23 (by omega) (by kernel_rfl) (by kernel_rfl)) Tryz.underlying24 zaa (by omega)
     ·have hk4 : k' < 2 := by simpa using (List.getElem?_eq_some_iff.1 hk).1
      rcases (by omega : k' = 0 ∨ k' = 1) with rfl | rfl <;> obtain rfl := Option.some.inj hk <;> obtain rfl := Option.some.inj ho
      ·obtain rfl := List.eq_nil_of_length_eq_zero hvl
       have hxW : Ext wb W := hRR
       refine zc3 (Φ := fun v w' => Ext wb w' ∧ ∃ cs : List Value, v = .agg cs.toArray ∧ Val.At (FreshU wr.heap.size w') w' x cs) (zco Tryz.func224 rfl rfl rfl (map_one (hat 3 24 (by omega) (by kernel_rfl) (by kernel_rfl)))) ?_ (fun v w' h => hK _ _ h)
       have hxx := HXb.out.trans hxW
       refine (IH.out x S W [.int .i64 ka, .bool ba, .int .i64 na, .string ta, .string uta, .string uia, .slice Aa la ca, .slice Ab lb cb] (by have := Hn.out; have := Val.size_get Hx.out; simp at *; omega) (fun b hb => Nat.lt_of_lt_of_le (HS1.out b hb) (Nat.le_trans HSt.out.grown.size hxx.size)) (Hvy.out.alike fun b hb => ?_)).mono ?_
       ·have h1 := HS1.out b hb
        have h2 := HS.out b hb
        rw [hxx.block b (Nat.lt_of_lt_of_le h1 HSt.out.grown.size)]
        exact HSt.out.grown.block b h1 fun e => by injection e with e; omega
       ·rintro e w' ⟨cs, rfl, h1, h2⟩
        exact ⟨_, rfl, hxW.trans h2, cs, rfl, h1.mono fun b hb => ⟨Nat.le_trans hxx.size hb.1, hb.2⟩⟩
      ·obtain ⟨v1', rfl⟩ := lst1 hvl
       obtain ⟨hxW, cs, rfl, hcs⟩ := hRR
       have hxx := HXb.out.trans hxW
       obtain ⟨yss, o1, -, -, -⟩ := HMx2.out.ext hxx
       obtain ⟨g', cap2', cur, hv, hge, hh, hnc2, hcm2, hcur, _⟩ : ∃ g' cap' cur, Value.slice (some ⟨g, 0, none⟩) items.length ci = .slice (some ⟨g', 0, none⟩) items.length cap' ∧ w1.heap.size ≤ g' ∧ W.heap[g']? = some (.cells cur 27 (0, 0)) ∧ items.length ≤ cap' ∧ cap' ≤ maxLen ∧ cur.size = cap' * 8 ∧ True := by
        rcases o1.2 with ⟨hv, _⟩ | ⟨g', cap', cur, hv, q1, q2, q3, q4, q5, _⟩
        ·cases hv
        ·exact ⟨g', cap', cur, hv, q1, q2, q3, q4, q5, trivial⟩
       injection hv with e1 _ e3
       injection e1 with e1
       injection e1 with e1 _
       subst e1 e3
       have hcl := hcs.length
       refine wp_store_cells _ _ _ rfl g (0 + j * 8) (hat 5 26 (by omega) (by kernel_rfl) (by kernel_rfl)) cs (hat 4 25 (by omega) (by kernel_rfl) (by kernel_rfl)) zaa hcl 27 cur hh (by rw [hcl, hcur]; omega) hcs.one (fun w' hb' hg' => hK _ _ ⟨(HSt2.out.ext hxW).apart hg' Hg1.out hB1, (show NamesAt w1 names v1 W from zam HN2.out hxW).apart2 hg' fun b hb e => ?_, ?_⟩)
       ·have hN : W.ownsRow w1.heap.size 9 1 v1 names.length (names.map Value.string) := zam HN2.out hxW
        injection e with e
        subst e
        exact row_types o1 hN (by decide) rfl hb
       ·rw [Nat.zero_add] at hb'
        exact HMx2.out.next Hx.out hxx hcs hh hb' hg'
     ·intro zs vs W hzl hvl hRR hzs
      obtain ⟨v1', v2', rfl⟩ := lst2 hvl
      obtain ⟨z0, z1, z2, z3, z4, z5, z6, rfl⟩ := lst7 hzl
      obtain ⟨hst, hN, hM⟩ := hRR
      have HSt3 := q_ hst
      have HN3 := q_ hN
      have HM3 := q_ hM
      clear hzs hzl hvl hst hN hM
      simp only [List.take, List.drop, za0, Act.put, List.setIfInBounds_toArray, List.set_cons_zero, List.set_cons_succ]
      go_wp2_with fail
      go_roundw
      case rel => exact ⟨j + 1, by omega, by go_num, HSt3, HN3, HM3⟩
      case measure => simp [intOf]; omega
    ·have hje : j = items.length := by omega
     subst hje
     have HB2 := q_ ((HSt.out.grown.block _ (zaf HQ1.out) (fun e => by injection e with e; omega)).trans HQ1.out)
     obtain ⟨An, cn, en⟩ := zaz HN.out
     subst en
     go_wp2_with (first | (refine zab rfl 27 _ rfl w.heap.size 0 rfl zae zaa rfl (zak (cs := [.int .i64 k, .bool bo, .int .i64 i, .string t, .string ut, .string ui, .slice Ai items.length ci, .slice An names.length cn]) HSt.out.box) ?_) | (refine zbt rfl 27 _ _ rfl (w.heap.size + 1) rfl [.int .i64 k, .bool bo, .int .i64 i, .string t, .string ut, .string ui, .slice Ai items.length ci, .slice An names.length cn] rfl zaa rfl 27 zeroCells.toArray HB2.out rfl (by simp [Value.oneCell']) ?_; intro w9 hw9 hg9))
     refine bodyPost_ret (v := .agg [.int .i64 k, .bool bo, .int .i64 i, .string t, .string ut, .string ui, .slice Ai items.length ci, .slice An names.length cn].toArray) (zdb Tryz.results224 rfl zae zaa rfl (zak hw9)) rfl ?_
     obtain ⟨xs, o1, o2⟩ := HMx.out.all
     have hs := HSt.out.grown.size
     have hs9 := hg9.size
     have hq := HQS.out
     have o3 := zau o1 hg9 fun b hb e => by have := (o1.lt b hb).1; injection e with e; omega
     have o4 := o2.alike (w' := w9) fun b hb => hg9.block b hb.lt fun e => by have := hb.1; injection e with e; omega
     have hrows : valR.RowsAt (FreshU w.heap.size w9) w9 items (.slice Ai items.length ci) := zet (R := valR) o3 o4 (by rw [zaq]; omega) (fun b hb => (hb.fresh.grown hg9 fun e => by have e1 := hb.1; injection e with e; omega).low (by omega)) fun b hb => (own_free o3 hb).low (by omega)
     have oN := zau HN.out hg9 fun b hb e => by have := (HN.out.lt b hb).1; injection e with e; omega
     have hstr : StrsAt (FreshU w.heap.size w9) w9 names (.slice An names.length cn) := own_strs oN (by rw [zaq]; omega) HM4.out fun b hb => (own_free oN hb).low (by omega)
     obtain ⟨A', c', e, hb, hr⟩ := valsAt_iff.2 hrows
     injection e with e1 _ e3
     subst e1 e3
     refine ⟨_, rfl, ?_, ?_⟩
     ·unfold Val.At
      exact ⟨_, _, _, rfl, HBd.out, hb, hr, hstr⟩
     ·exact zav (zav HQX.out HSt.out.grown fun b e => by injection e with e; omega) hg9 fun b e => by injection e with e; omega
end Go.Proofs.YtebfoimbdljbmaaGreatDoor

/-
  The program's copy of an entity. The conditions: the entity lies in memory as it should.
-/
namespace Go.Proofs.YtebfoimbdljbmaaGreatDoor
open Go.RowKit
open Lib renaming hid → q_
set_option maxRecDepth 100000
set_option maxHeartbeats 4000000
def CopiedE (x : Ent) (w : World) (e : Ending) (w' : World) : Prop := ∃ cs : List Value, e = .returned (.agg cs.toArray) ∧ entR.At (FreshU w.heap.size w') w' x cs ∧ Ext w w'
theorem copied_ok (x : Ent) (S : Nat → Prop) (w : World) (cs : List Value) (hS : ∀ b, S b → b < w.heap.size) (hx : entR.At S w x cs) :
  Calls Tryz.prog 207 #[.agg cs.toArray] w (CopiedE x w) := by
 obtain ⟨pv, acs, rfl, hfu, hpr, hat⟩ := hx
 obtain ⟨ka, ba, na, ta, uta, uia, Aa, la, ca, Ab, lb, cb, rfl⟩ := hat.shape
 have hpr' := hpr
 obtain ⟨A1, c1, rfl, ⟨p0, p1, p2⟩, _⟩ := hpr
 rw [zaq] at p0
 rw [zaj] at p2
 have HS := q_ hS
 have HFu := q_ hfu
 have HPr := q_ hpr'
 have HAt := q_ hat
 clear hS hfu hpr' hat
 go_enter Tryz.func207, Tryz.ntmps207
 go_wp2_with fail
 obtain ⟨W0, hW0⟩ : ∃ W0, W0 = (w.alloc (.cells (zap x.uid (.slice A1 x.ps.length c1) [.int .i64 ka, .bool ba, .int .i64 na, .string ta, .string uta, .string uia, .slice Aa la ca, .slice Ab lb cb]).toArray 87)).alloc (.cells (zap (ByteArray.empty, ByteArray.empty) (.slice none 0 0) zeroCells).toArray 87) := ⟨_, rfl⟩
 have h2 := heap2 w (.cells (zap x.uid (.slice A1 x.ps.length c1) [.int .i64 ka, .bool ba, .int .i64 na, .string ta, .string uta, .string uia, .slice Aa la ca, .slice Ab lb cb]).toArray 87) (.cells (zap (ByteArray.empty, ByteArray.empty) (.slice none 0 0) zeroCells).toArray 87)
 change Calls Tryz.prog _ _ ((w.alloc (.cells (zap x.uid (.slice A1 x.ps.length c1) [.int .i64 ka, .bool ba, .int .i64 na, .string ta, .string uta, .string uia, .slice Aa la ca, .slice Ab lb cb]).toArray 87)).alloc (.cells (zap (ByteArray.empty, ByteArray.empty) (.slice none 0 0) zeroCells).toArray 87)) _
 rw [← hW0] at h2 ⊢
 obtain ⟨q0, q1, qs, qx⟩ := h2
 have HQ0 := q_ q0
 have HQ1 := q_ q1
 have HQX := q_ qx
 have HQS := q_ qs
 clear q0 q1 qs qx hW0
 refine (cloneU_ok S x.ps (.slice A1 x.ps.length c1) W0 (HPr.out.alike (Alike.of_ext HQX.out HS.out))).mono ?_
 rintro e w2 ⟨v', xs, rfl, ho, hf, hx2⟩
 obtain ⟨A2, c2, rfl⟩ := zaz ho
 have HO := q_ ho
 have HF := q_ hf
 have HX2 := q_ hx2
 have HB0 := q_ ((hx2.block _ (zaf HQ0.out)).trans HQ0.out)
 have HB1 := q_ ((hx2.block _ (zaf HQ1.out)).trans HQ1.out)
 clear ho hf hx2
 go_upto_region 2 with (refine zc6 rfl 50 _ _ rfl w.heap.size 2 rfl A2 x.ps.length c2 rfl (fun _ => by kernel_rfl) 87 _ HB0.out (by simp [zap]) ?_; intro w3 hb3 hg3)
 have HB3 : Hid (w3.heap[w.heap.size]? = some (.cells (zap x.uid (.slice A2 x.ps.length c2) [.int .i64 ka, .bool ba, .int .i64 na, .string ta, .string uta, .string uia, .slice Aa la ca, .slice Ab lb cb]).toArray 87 (0, 0))) := q_ hb3
 have HG3 := q_ hg3
 have HC3 : Hid (CellsAt w3 w.heap.size 3 [.int .i64 ka, .bool ba, .int .i64 na, .string ta, .string uta, .string uia, .slice Aa la ca, .slice Ab lb cb]) := q_ fun j u hj => by
  rw [cell_of_row _ _ _ _ _ _ HB3.out, Nat.add_comm]; simpa [zap] using hj
 clear hb3 hg3
 go_wp2_with (refine zab rfl 27 _ rfl w.heap.size 3 rfl zae zaa rfl HC3.out ?_)
 have hsz : w.heap.size < W0.heap.size := by have := HQS.out; omega
 refine (clone_ok _ x.av S w3 [.int .i64 ka, .bool ba, .int .i64 na, .string ta, .string uta, .string uia, .slice Aa la ca, .slice Ab lb cb] (Nat.le_refl _) (fun b hb => Nat.lt_of_lt_of_le (Nat.lt_of_lt_of_le (HS.out b hb) HQX.out.size) (Nat.le_trans HX2.out.size HG3.out.size)) (HAt.out.alike fun b hb => ?_)).mono ?_
 ·have h1 := HS.out b hb
  rw [HG3.out.block b (Nat.lt_of_lt_of_le (Nat.lt_of_lt_of_le h1 HQX.out.size) HX2.out.size) (fun e => by injection e with e; omega)]
  exact (HX2.out.block b (Nat.lt_of_lt_of_le h1 HQX.out.size)).trans (HQX.out.block b h1)
 rintro e w4 ⟨cs, rfl, ha4, hx4⟩
 obtain ⟨r0, r1, r2, r3, r4, r5, r6, r7, r8, r9, ra, rb, rfl⟩ := ha4.shape
 have HA4 := q_ ha4
 have HX4 := q_ hx4
 have HB4 := q_ ((hx4.block _ (zaf HB3.out)).trans HB3.out)
 clear ha4 hx4
 go_upto_region 3 with (refine ze7 rfl 27 _ _ rfl w.heap.size 3 rfl [.int .i64 r0, .bool r1, .int .i64 r2, .string r3, .string r4, .string r5, .slice r6 r7 r8, .slice r9 ra rb] rfl zaa rfl 87 _ HB4.out (by simp [zap]) (by simp [Value.oneCell']) ?_; intro w5 hb5 hg5)
 have HB5 : Hid (w5.heap[w.heap.size]? = some (.cells (zap x.uid (.slice A2 x.ps.length c2) [.int .i64 r0, .bool r1, .int .i64 r2, .string r3, .string r4, .string r5, .slice r6 r7 r8, .slice r9 ra rb]).toArray 87 (0, 0))) := q_ hb5
 have HG5 := q_ hg5
 have HB15 := q_ ((hg5.block _ (Nat.lt_of_lt_of_le (zaf HB1.out) (Nat.le_trans HG3.out.size HX4.out.size)) (fun e => by injection e with e; omega)).trans ((HX4.out.block _ (Nat.lt_of_lt_of_le (zaf HB1.out) HG3.out.size)).trans ((HG3.out.block _ (zaf HB1.out) (fun e => by injection e with e; omega)).trans HB1.out)))
 clear hb5 hg5
 go_wp2_with (first | (refine zab rfl 87 _ rfl w.heap.size 0 rfl za5 zas rfl (zak HB5.out) ?_) | (refine zbt rfl 87 _ _ rfl (w.heap.size + 1) rfl (zap x.uid (.slice A2 x.ps.length c2) [.int .i64 r0, .bool r1, .int .i64 r2, .string r3, .string r4, .string r5, .slice r6 r7 r8, .slice r9 ra rb]) rfl zas rfl 87 (zap (ByteArray.empty, ByteArray.empty) (.slice none 0 0) zeroCells).toArray HB15.out rfl (zdm rfl (by simp [Value.oneCell'])) ?_; intro w9 hw9 hg9))
 refine bodyPost_ret (v := .agg (zap x.uid (.slice A2 x.ps.length c2) [.int .i64 r0, .bool r1, .int .i64 r2, .string r3, .string r4, .string r5, .slice r6 r7 r8, .slice r9 ra rb]).toArray) (zdb Tryz.results207 rfl za5 zas rfl (zak hw9)) rfl ?_
 have hq := HQS.out
 have s2 := HX2.out.size
 have s3 := HG3.out.size
 have s4 := HX4.out.size
 have s5 := HG5.out.size
 have s9 := hg9.size
 have o2 : w9.ownsRow W0.heap.size 23 2 (.slice A2 x.ps.length c2) x.ps.length xs := by
  have o3 := zau HO.out HG3.out fun b hb e => by have := (HO.out.lt b hb).1; injection e with e; omega
  have o4 := zam o3 HX4.out
  have o5 := zau o4 HG5.out fun b hb e => by have := (o4.lt b hb).1; injection e with e; omega
  exact zau o5 hg9 fun b hb e => by have := (o5.lt b hb).1; injection e with e; omega
 refine ⟨_, rfl, ⟨_, _, rfl, HFu.out, ?_, ?_⟩, ?_⟩
 ·exact zet (R := uidR) o2 (HF.out (fun _ => False) w9) (by rw [zaq]; omega) (fun b hb => hb.elim) fun b hb => (own_free o2 hb).low (by omega)
 ·refine Val.At.mono (S := FreshU w3.heap.size w4) ?_ _ _ (HA4.out.alike fun b hb => ?_)
  ·intro b hb'
   have e1 := hb'.1
   exact ((hb'.grown HG5.out fun e => by injection e with e; omega).grown hg9 fun e => by injection e with e; omega).low (by omega)
  ·have e1 := hb.1
   have e2 := hb.lt
   rw [hg9.block b (by omega) (fun e => by injection e with e; omega), HG5.out.block b e2 (fun e => by injection e with e; omega)]
 ·exact zav (zav ((zav (HQX.out.trans HX2.out) HG3.out fun b e => by injection e with e; omega).trans HX4.out) HG5.out fun b e => by injection e with e; omega) hg9 fun b e => by injection e with e; omega
end Go.Proofs.YtebfoimbdljbmaaGreatDoor

/-
  What is above what over any number of steps; what a marking that goes upwards leaves. No program in sight. The conditions: none (definitions and lemmas).
-/
namespace Go.Proofs.YtebfoimbdljbmaaGreatDoor
inductive UpTo (l : List Ent) : Uid → Uid → Prop
 | one {u v : Uid} : Above l u v → UpTo l u v
 | more {u v q : Uid} : UpTo l u v → Above l v q → UpTo l u q
theorem UpTo.trans {l : List Ent} {u v q : Uid} (h : UpTo l u v) (k : UpTo l v q) : UpTo l u q := by
 induction k with
 | one h1 => exact h.more h1
 | more _ h1 ih => exact ih.more h1
theorem UpTo.first {l : List Ent} {u q : Uid} (h : UpTo l u q) : ∃ v, Above l u v ∧ (v = q ∨ UpTo l v q) := by
 induction h with
 | one h1 => exact ⟨_, h1, .inl rfl⟩
 | more _ h1 ih =>
  obtain ⟨v, hv, h2⟩ := ih
  refine ⟨v, hv, .inr ?_⟩
  rcases h2 with rfl | h2
  ·exact .one h1
  ·exact h2.more h1
theorem UpTo.names {l : List Ent} {u q : Uid} (h : UpTo l u q) : u ∈ l.map Ent.uid ∧ q ∈ l.map Ent.uid := by
 induction h with
 | one h1 => obtain ⟨e, he, rfl, _, h2⟩ := h1; exact ⟨List.mem_map.2 ⟨e, he, rfl⟩, h2⟩
 | more _ h1 ih => obtain ⟨e, he, _, _, h2⟩ := h1; exact ⟨ih.1, h2⟩
/-! ### marking -/
def zfi (us : List Uid) (m : Uid → Bool) : Nat := us.countP fun q => !m q
theorem leftN_le {us : List Uid} {m m' : Uid → Bool} (h : ∀ q, m q = true → m' q = true) : zfi us m' ≤ zfi us m := List.countP_mono_left fun q _ hq => by
 cases hm : m q with
 | false => rfl
 | true => rw [h q hm] at hq; cases hq
theorem leftN_mark {us : List Uid} {m : Uid → Bool} {p : Uid} (hp : p ∈ us) (hm : m p = false) : zfi us (fun q => decide (q = p) || m q) + 1 ≤ zfi us m := by
 induction us with
 | nil => simp at hp
 | cons x r ih =>
  unfold zfi at ih ⊢
  rw [List.countP_cons, List.countP_cons]
  by_cases hx : x = p
  ·subst hx
   have h1 : r.countP (fun q => !(decide (q = x) || m q)) ≤ r.countP (fun q => !m q) := List.countP_mono_left fun q _ hq => by
    cases hmq : m q with
    | false => rfl
    | true => rw [hmq] at hq; simp at hq
   simp [hm]
   simpa using h1
  ·rcases List.mem_cons.1 hp with h | h
   ·exact absurd h.symm hx
   ·have h1 := ih h
    have h2 : (!(decide (x = p) || m x)) = !m x := by simp [hx]
    dsimp only at h1 ⊢
    rw [h2]
    omega
structure Marked (c : List Ent) (s : Uid) (k : Nat) (e : Ent) (m m' : Uid → Bool) : Prop where
 old : ∀ q, m q = true → m' q = true
 par : ∀ (i : Nat) (p : Uid), i < k → e.ps[i]? = some p → m' p = true
 new : ∀ q, m' q = true → m q = true ∨ (UpTo c s q ∧ ∀ r, Above c q r → m' r = true)
theorem Marked.start {c : List Ent} {s : Uid} {e : Ent} {m : Uid → Bool} : Marked c s 0 e m m := ⟨fun _ h => h, fun _ _ h => by omega, fun _ h => .inl h⟩
theorem Marked.skip {c : List Ent} {s : Uid} {k : Nat} {e : Ent} {m m' : Uid → Bool} (h : Marked c s k e m m') {p : Uid} (hp : e.ps[k]? = some p) (hm : m' p = true) : Marked c s (k + 1) e m m' :=
 ⟨h.old, fun i q hi hq => by
  by_cases he : i = k
  ·subst he; rw [hp] at hq; cases hq; exact hm
  ·exact h.par i q (by omega) hq, h.new⟩
theorem Marked.step {c : List Ent} (hn : (c.map Ent.uid).Nodup) {s : Uid} {k : Nat} {e f : Ent} {m m' m2 : Uid → Bool} (h : Marked c s k e m m') {p : Uid} (hp : e.ps[k]? = some p) (hf : f ∈ c) (hfp : f.uid = p) (hup : UpTo c s p)
  (h2 : Marked c p f.ps.length f (fun q => decide (q = p) || m' q) m2) : Marked c s (k + 1) e m m2 := by
 have hp2 : m2 p = true := h2.old p (by simp)
 have hold : ∀ q, m' q = true → m2 q = true := fun q hq => h2.old q (by simp [hq])
 refine ⟨fun q hq => hold q (h.old q hq), fun i q hi hq => ?_, fun q hq => ?_⟩
 ·by_cases he : i = k
  ·subst he; rw [hp] at hq; cases hq; exact hp2
  ·exact hold q (h.par i q (by omega) hq)
 ·rcases h2.new q hq with h3 | ⟨h3, h4⟩
  ·simp only [Bool.or_eq_true, decide_eq_true_eq] at h3
   rcases h3 with rfl | h3
   ·refine .inr ⟨hup, fun r hr => ?_⟩
    obtain ⟨g, hg, hgu, hgr, _⟩ := hr
    have : g = f := by
     have hu : g.uid = f.uid := by rw [hgu, hfp]
     exact byUid_eq hn hg hf (by unfold cmpE; rw [hu]; exact zfa _)
    subst this
    obtain ⟨i, hi⟩ := List.mem_iff_getElem?.1 hgr
    exact h2.par i r (List.getElem?_eq_some_iff.1 hi).1 hi
   ·rcases h.new q h3 with h4 | ⟨h4, h5⟩
    ·exact .inl h4
    ·exact .inr ⟨h4, fun r hr => hold r (h5 r hr)⟩
  ·exact .inr ⟨hup.trans h3, h4⟩
theorem Marked.all {c : List Ent} (hn : (c.map Ent.uid).Nodup) {e : Ent} (he : e ∈ c) (hpar : ∀ p ∈ e.ps, p ∈ c.map Ent.uid) {m m' : Uid → Bool} (hm : ∀ q, m q = false) (h : Marked c e.uid e.ps.length e m m') (q : Uid) : m' q = true ↔ UpTo c e.uid q := by
 constructor
 ·intro hq
  rcases h.new q hq with h1 | h1
  ·rw [hm q] at h1; cases h1
  ·exact h1.1
 ·intro hq
  have hfirst : ∀ v, Above c e.uid v → m' v = true := fun v hv => by
   obtain ⟨g, hg, hgu, hgv, _⟩ := hv
   have : g = e := byUid_eq hn hg he (by unfold cmpE; rw [hgu]; exact zfa _)
   subst this
   obtain ⟨i, hi⟩ := List.mem_iff_getElem?.1 hgv
   exact h.par i v (List.getElem?_eq_some_iff.1 hi).1 hi
  generalize hs : e.uid = s at hq hfirst
  induction hq with
  | one h1 => exact hfirst _ h1
  | more _ h1 ih =>
   rcases h.new _ ih with h2 | ⟨_, h2⟩
   ·rw [hm] at h2; cases h2
   ·exact h2 _ h1
end Go.Proofs.YtebfoimbdljbmaaGreatDoor

/-
  Maps from pairs of names to truths: which pairs one holds; ranging over one. The conditions: none (definitions and lemmas).
-/
namespace Go.Proofs.YtebfoimbdljbmaaGreatDoor
open Go.RowKit Go.Maps
set_option maxRecDepth 100000
theorem Tryz.wideP : (match Tryz.prog.underlying 122 with | some (.array _ _) | some (.struct _) => true | _ => false) = true := by rw [Tryz.underlying122]
theorem Tryz.keyP : Tryz.prog.keyType 122 = true := by kernel_rfl
theorem Tryz.lawP : Keyed Tryz.prog 122 := Keyed.of_law (deep_law_laid Tryz.laidU (m := 3) (by omega) (of_decide_eq_true (by kernel_rfl)) (by kernel_rfl) Tryz.wideP)
theorem Tryz.zeroB (w : World) : (zeroValue 4).run Tryz.prog w = .ok (.bool false) w := by kernel_rfl
theorem Tryz.cellsP : Tryz.prog.cellsOf 122 = 4 := by kernel_rfl
theorem Tryz.typesP : ∃ n, Tryz.prog.types.size + 1 = n + 3 := ⟨Tryz.prog.types.size - 2, by have : 2 ≤ Tryz.prog.types.size := of_decide_eq_true (by kernel_rfl); omega⟩
abbrev zea := Uid × Uid
def FitP (p : zea) : Prop := FitU p.1 ∧ FitU p.2
def valP (p : zea) : Value := .agg #[.string p.1.1, .string p.1.2, .string p.2.1, .string p.2.2]
def litP (p : zea) : Lit := .string (keyBytes [.string p.1.1.data.toList, .string p.1.2.data.toList, .string p.2.1.data.toList, .string p.2.2.data.toList])
theorem keyP_lits (a b c d : Value) (n : Nat) : Tryz.prog.keyLits (n + 3) 122 [a, b, c, d] = ((Tryz.prog.keyLits (n + 2) 23 [a, b]).bind fun x => (Tryz.prog.keyLits (n + 2) 23 [c, d]).map fun y => x ++ y) := by
 conv => lhs; unfold Program.keyLits
 simp only [Tryz.underlying122, Tryz.cellsP]
 cases h1 : Tryz.prog.keyLits (n + 2) 23 [a, b] <;> cases h2 : Tryz.prog.keyLits (n + 2) 23 [c, d] <;> simp [List.range, List.range.loop, zfh, h1, h2]
theorem str_lits {s : ByteArray} (hs : s.size ≤ maxLen) (n : Nat) : Tryz.prog.keyLits (n + 1) 9 [.string s] = some [.string s.data.toList] := by
 unfold Program.keyLits
 simp [Tryz.underlying9, hs]
theorem uid_lits {u : Uid} (h : FitU u) (n : Nat) : Tryz.prog.keyLits (n + 2) 23 [.string u.1, .string u.2] = some [.string u.1.data.toList, .string u.2.data.toList] := by
 rw [keyU_lits, str_lits h.1, str_lits h.2]; rfl
theorem zed {p : zea} (h : FitP p) : keyOf Tryz.prog 122 (valP p) = some (litP p) := by
 obtain ⟨n, hn⟩ := Tryz.typesP
 unfold keyOf valP litP
 simp only [Tryz.underlying122, Tryz.keyP, Value.formed, Tryz.cellsP, hn]
 simp only [Value.cells, keyP_lits, uid_lits h.1, uid_lits h.2]
 rfl
theorem litP_inj {p q : zea} (hp : FitP p) (hq : FitP q) (h : litP p = litP q) : p = q := by
 have h1 := zed hp
 have h2 := zed hq
 rw [h] at h1
 have := Tryz.lawP.inj h1 h2
 unfold valP at this
 obtain ⟨⟨a, b⟩, ⟨c, d⟩⟩ := p
 obtain ⟨⟨a', b'⟩, ⟨c', d'⟩⟩ := q
 injection this with this
 injection this with this
 injection this with e1 this
 injection this with e2 this
 injection this with e3 this
 injection this with e4 _
 injection e1 with e1
 injection e2 with e2
 injection e3 with e3
 injection e4 with e4
 subst e1 e2 e3 e4
 rfl
theorem bool_inv {v : Value} {z : DataW Unit × List MemPlace} (h : plainElem Tryz.prog 4 v = some z) : ∃ x, v = .bool x ∧ z = (.lit (.bool x), []) := by
 unfold plainElem at h
 rw [Tryz.underlying4] at h
 cases v <;> simp at h
 exact ⟨_, rfl, h.symm⟩
structure ReadsP (D : DataW Unit) (m : zea → Bool) : Prop where
 has : ∀ p, FitP p → Maps.has D (litP p) = m p
 at' : ∀ p, FitP p → m p = true → D.atKey (litP p) (.lit (.bool false)) = .lit (.bool true)
 keys : ∀ kl, Maps.has D kl = true → ∃ p, FitP p ∧ kl = litP p
def MapP (w : World) (b : Nat) (m : zea → Bool) (cnt : Nat) : Prop :=
 ∃ D n, w.ownsMap Tryz.prog 122 (plainElem Tryz.prog 4) b n D ∧ n ≤ 1073741824 ∧ ReadsP D m ∧ Maps.size D = cnt
theorem MapP.made (w : World) : MapP (w.alloc (.map #[] 0)) w.heap.size (fun _ => false) 0 :=
 ⟨_, 0, World.ownsMap_made _ _ _ _, by omega, ⟨fun _ _ => rfl, fun _ _ h => by simp at h, fun _ h => by simp [Maps.has] at h⟩, rfl⟩
theorem MapP.block {w w' : World} {b : Nat} {m : zea → Bool} {cnt : Nat} (h : MapP w b m cnt) (hb : w'.heap[b]? = w.heap[b]?) : MapP w' b m cnt := by
 obtain ⟨D, n, ⟨es, clock, h1, h2⟩, h3⟩ := h
 exact ⟨D, n, ⟨es, clock, hb.trans h1, h2⟩, h3⟩
theorem MapP.lt {w : World} {b : Nat} {m : zea → Bool} {cnt : Nat} (h : MapP w b m cnt) : b < w.heap.size := by
 obtain ⟨D, n, h1, _⟩ := h; exact h1.lt
theorem MapP.ext {w w' : World} {b : Nat} {m : zea → Bool} {cnt : Nat} (h : MapP w b m cnt) (k : Ext w w') : MapP w' b m cnt := h.block (k.block _ h.lt)
theorem MapP.congr {w : World} {b : Nat} {m m' : zea → Bool} {cnt : Nat} (h : MapP w b m cnt) (he : ∀ u, m u = m' u) : MapP w b m' cnt := by
 have : m = m' := funext he
 rw [← this]; exact h
theorem MapP.isMap {w : World} {b : Nat} {m : zea → Bool} {cnt : Nat} (h : MapP w b m cnt) : ∃ es clock, w.heap[b]? = some (.map es clock) := by
 obtain ⟨D, n, ⟨es, clock, h1, _⟩, _⟩ := h; exact ⟨es, clock, h1⟩
theorem MapP.look {w : World} {b : Nat} {m : zea → Bool} {cnt : Nat} (h : MapP w b m cnt) {p : zea} (hp : FitP p) : (Instr.lookup 83 (.map (some b)) (valP p) false).run Tryz.prog w = .ok (.bool (m p)) w := by
 obtain ⟨D, n, hown, hn, hr, hc⟩ := h
 obtain ⟨v, ps, hrun, hv⟩ := hown.lookup Tryz.lawP Tryz.underlying83 (Tryz.zeroB w) (plainElem_bool Tryz.underlying4 false) (zed hp)
 obtain ⟨x, rfl, hx⟩ := bool_inv hv
 rw [hrun]
 congr 2
 injection hx with hx _
 cases hm : m p with
 | false =>
  have h0 := atKey_of_not_has (D := D) (k := litP p) (by rw [hr.has p hp, hm]) (.lit (.bool false))
  rw [h0] at hx
  injection hx with hx
  injection hx with hx
  exact hx.symm
 | true =>
  rw [hr.at' p hp hm] at hx
  injection hx with hx
  injection hx with hx
  exact hx.symm
theorem MapU.look {w : World} {b : Nat} {m : Uid → Option Nat} {cnt : Nat} (h : MapU w b m cnt) {u : Uid} (hu : FitU u) {i : Nat} (hi : m u = some i) : (Instr.lookup 82 (.map (some b)) (zeu u) false).run Tryz.prog w = .ok (.int .i64 i) w := by
 obtain ⟨D, n, hown, hn, hr, hc, hle⟩ := h
 obtain ⟨c, hrun, hat, hwc⟩ := hown.lookup_int Tryz.lawU Tryz.underlying82 Tryz.underlying3 (Tryz.zeroI w) (zb6 hu)
 rw [hr.at' u i hu hi] at hat
 injection hat with hat
 injection hat with _ hat
 rw [hrun, ← hat]
theorem MapU.look_ok {w : World} {b : Nat} {m : Uid → Option Nat} {cnt : Nat} (h : MapU w b m cnt) {u : Uid} (hu : FitU u) : ∃ c : Nat, (Instr.lookup 82 (.map (some b)) (zeu u) true).run Tryz.prog w = .ok (.tuple #[.int .i64 c, .bool (m u).isSome]) w ∧ ∀ i, m u = some i → c = i := by
 obtain ⟨D, n, hown, hn, hr, hc, hle⟩ := h
 obtain ⟨v, ps, hrun, hv⟩ := hown.look_ok Tryz.lawU Tryz.underlying82 (Tryz.zeroI w) (plainElem_int Tryz.underlying3 (by decide)) (zb6 hu)
 obtain ⟨c, rfl, hx, hwc⟩ := plainElem_int_inv Tryz.underlying3 hv
 injection hx with hx _
 rw [hr.has u hu] at hrun
 cases hmu : m u with
 | none =>
  have h0 := atKey_of_not_has (D := D) (k := litU u) (by rw [hr.has u hu, hmu]; rfl) (.lit (.int .i64 0))
  rw [h0] at hx
  injection hx with hx
  injection hx with _ hx
  subst hx
  rw [hmu] at hrun
  exact ⟨0, hrun, fun i hi => by cases hi⟩
 | some i =>
  rw [hr.at' u i hu hmu] at hx
  injection hx with hx
  injection hx with _ hx
  subst hx
  rw [hmu] at hrun
  exact ⟨i, hrun, fun j hj => Option.some.inj hj⟩
theorem MapU.put {w : World} {b : Nat} {m : Uid → Option Nat} {cnt : Nat} (h : MapU w b m cnt) (hcnt : cnt ≤ 1048576) {u : Uid} (hu : FitU u) {i : Nat} (hi : i ≤ 1073741824) :
  ∃ w', (Instr.mapUpdate 82 (.map (some b)) (zeu u) (.int .i64 i)).run Tryz.prog w = .ok () w' ∧ MapU w' b (fun y => if y = u then some i else m y) (cnt + if (m u).isSome then 0 else 1) ∧ GrownBy w w' (some b) := by
 obtain ⟨D, n, hown, hn, hr, hc, hle⟩ := h
 have hown' : w.ownsMap Tryz.prog 23 (plainElem Tryz.prog 3) b cnt D := by
  obtain ⟨es, clock, h1, h2, h3, rfl⟩ := hown
  refine ⟨es, clock, h1, h2, ?_, rfl⟩
  rw [← hc]
  simp only [Maps.size, length_sorted, List.length_map, Array.length_toList]; omega
 obtain ⟨w', hrun, r1, r2⟩ := hown'.store (val := .int .i64 i) Tryz.lawU Tryz.underlying82 (by unfold maxLen; omega) (zb6 hu) (plainElem_int Tryz.underlying3 (WalkArith.wf_i64 (by omega)))
 have hkl := Tryz.lawU.key (zb6 hu)
 refine ⟨w', hrun, ⟨_, cnt + 1, r1, by omega, ⟨fun y hy => ?_, fun y j hy hj => ?_, fun kl hkl => ?_⟩, ?_, fun y j hj => ?_⟩, ⟨r2.grown, zdo _ _ _ _ hrun⟩⟩
 ·by_cases he : y = u
  ·subst he
   rw [has_put_same hown.isMap hkl]; simp
  ·rw [has_put_other fun e => he (litU_inj hy hu e), if_neg he, hr.has y hy]
 ·by_cases he : y = u
  ·subst he
   rw [if_pos rfl] at hj
   obtain rfl := Option.some.inj hj
   rw [atKey_put_same hown.isMap hkl]
  ·rw [if_neg he] at hj
   rw [atKey_put_other fun e => he (litU_inj hy hu e), hr.at' y j hy hj]
 ·by_cases he : kl = litU u
  ·exact ⟨u, hu, he⟩
  ·rw [has_put_other he] at hkl
   exact hr.keys kl hkl
 ·rw [size_put (hown.tidy Tryz.lawU), hc, hr.has u hu]
  split <;> simp_all
 ·dsimp only at hj
  by_cases he : y = u
  ·rw [if_pos he] at hj
   obtain rfl := Option.some.inj hj
   exact hi
  ·rw [if_neg he] at hj
   exact hle y j hj
theorem MapP.put {w : World} {b : Nat} {m : zea → Bool} {cnt : Nat} (h : MapP w b m cnt) (hcnt : cnt ≤ 1048576) {p : zea} (hp : FitP p) :
  ∃ w', (Instr.mapUpdate 83 (.map (some b)) (valP p) (.bool true)).run Tryz.prog w = .ok () w' ∧ MapP w' b (fun y => decide (y = p) || m y) (cnt + if m p then 0 else 1) ∧ GrownBy w w' (some b) := by
 obtain ⟨D, n, hown, hn, hr, hc⟩ := h
 have hown' : w.ownsMap Tryz.prog 122 (plainElem Tryz.prog 4) b cnt D := by
  obtain ⟨es, clock, h1, h2, h3, rfl⟩ := hown
  refine ⟨es, clock, h1, h2, ?_, rfl⟩
  rw [← hc]
  simp only [Maps.size, length_sorted, List.length_map, Array.length_toList]; omega
 obtain ⟨w', hrun, r1, r2⟩ := hown'.store (val := .bool true) Tryz.lawP Tryz.underlying83 (by unfold maxLen; omega) (zed hp) (plainElem_bool Tryz.underlying4 true)
 have hkl := Tryz.lawP.key (zed hp)
 refine ⟨w', hrun, ⟨_, cnt + 1, r1, by omega, ⟨fun y hy => ?_, fun y hy hj => ?_, fun kl hkl => ?_⟩, ?_⟩, ⟨r2.grown, zdo _ _ _ _ hrun⟩⟩
 ·by_cases he : y = p
  ·subst he
   rw [has_put_same hown.isMap hkl]; simp
  ·rw [has_put_other fun e => he (litP_inj hy hp e), hr.has y hy]; simp [he]
 ·by_cases he : y = p
  ·subst he
   rw [atKey_put_same hown.isMap hkl]
  ·simp [he] at hj
   rw [atKey_put_other fun e => he (litP_inj hy hp e), hr.at' y hy hj]
 ·by_cases he : kl = litP p
  ·exact ⟨p, hp, he⟩
  ·rw [has_put_other he] at hkl
   exact hr.keys kl hkl
 ·rw [size_put (hown.tidy Tryz.lawP), hc, hr.has p hp]
  split <;> simp_all
def RangeP (w : World) (b r : Nat) (m left : zea → Bool) (cnt : Nat) : Prop :=
 ∃ D n lf, w.ranges Tryz.prog 122 (plainElem Tryz.prog 4) b r n D lf cnt ∧ ReadsP D m ∧ (∀ p, FitP p → lf (litP p) = left p) ∧ ∀ kl, lf kl = true → ∃ p, FitP p ∧ kl = litP p
theorem RangeP.block {w w' : World} {b r : Nat} {m left : zea → Bool} {cnt : Nat} (h : RangeP w b r m left cnt) (hb : w'.heap[b]? = w.heap[b]?) (hr : w'.heap[r]? = w.heap[r]?) : RangeP w' b r m left cnt := by
 obtain ⟨D, n, lf, ⟨es, clock, since, seen, c0, h1, h2, h3, h4, h5, h6⟩, h7⟩ := h
 exact ⟨D, n, lf, ⟨es, clock, since, seen, c0, hb.trans h1, h2, h3, h4, hr.trans h5, h6⟩, h7⟩
theorem RangeP.lt {w : World} {b r : Nat} {m left : zea → Bool} {cnt : Nat} (h : RangeP w b r m left cnt) : b < w.heap.size ∧ r < w.heap.size := by
 obtain ⟨D, n, lf, h1, _⟩ := h; exact ⟨h1.owns.lt, h1.lt⟩
theorem RangeP.ext {w w' : World} {b r : Nat} {m left : zea → Bool} {cnt : Nat} (h : RangeP w b r m left cnt) (k : Ext w w') : RangeP w' b r m left cnt := h.block (k.block _ h.lt.1) (k.block _ h.lt.2)
theorem RangeP.isIter {w : World} {b r : Nat} {m left : zea → Bool} {cnt : Nat} (h : RangeP w b r m left cnt) : ∃ x y z, w.heap[r]? = some (.mapIter (some b) x y z) := by
 obtain ⟨D, n, lf, ⟨es, clock, since, seen, c0, h1, h2, h3, h4, h5, h6⟩, h7⟩ := h
 exact ⟨_, _, _, h5⟩
theorem RangeP.left_eq {w : World} {b r : Nat} {m left : zea → Bool} {cnt : Nat} (h : RangeP w b r m left cnt) : w.rangeLeft b r = cnt := by
 obtain ⟨D, n, lf, h1, _⟩ := h; exact h1.left_eq
section
variable {ops : Array Oper} {rest : List Oper} {o : Oper} {a : Act} {w : World} {Q : Exit → Act → World → Prop}
end
end Go.Proofs.YtebfoimbdljbmaaGreatDoor
