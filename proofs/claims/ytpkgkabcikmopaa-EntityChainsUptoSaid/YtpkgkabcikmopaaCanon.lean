/-
  What the reference's canon, and both Canons, come to: the same plain function. The conditions: the value is not deeper than a million.
-/
import Derived.Test.YtpkgkabcikmopaaCanP
namespace Go.Proofs.Ytpkgkabcikmopaa
open Go.RowKit

set_option maxRecDepth 100000 in
set_option maxHeartbeats 1600000 in
/-- the kinds without items, and what is none -/
theorem canR_plain (k : Int) (bo : Bool) (i : Int) (t ut ui : ByteArray) (A A2 : Option Addr) (l c l2 c2 : Nat) (items : List Val) (names : List ByteArray) (w : World) (h5 : k ≠ 5) (h6 : k ≠ 6) (hi : I64 i) (ht : t.size ≤ maxLen) (hut : ut.size ≤ maxLen) (hui : ui.size ≤ maxLen) :
    Calls Try.prog 41 #[.agg #[.int .i64 k, .bool bo, .int .i64 i, .string t, .string ut, .string ui, .slice A l c, .slice A2 l2 c2]] w
      (ValErr (Val.mk k bo i t ut ui items names).can.1 (Val.mk k bo i t ut ui items names).can.2 w) := by
  have hz : I64 0 := by constructor <;> omega
  have hx : Ext w ((w.alloc (.cells #[.int .i64 k, .bool bo, .int .i64 i, .string t, .string ut, .string ui, .slice A l c, .slice A2 l2 c2] 27))) := (Ext.refl w).alloc _
  have HX := Lib.hid hx
  have HI := Lib.hid hi
  have HZ := Lib.hid hz
  have HT := Lib.hid ht
  have HUt := Lib.hid hut
  have HUi := Lib.hid hui
  have hd : (Val.mk k bo i t ut ui items names).can = if k = 1 then (.mk 1 bo 0 empty empty empty [] [], 0) else if k = 2 then (.mk 2 false i empty empty empty [] [], 0) else if k = 3 then (.mk 3 false 0 t empty empty [] [], 0) else if k = 4 then (.mk 4 false 0 empty ut ui [] [], 0) else (.zero, 1) := by
    simp [Val.can, h5, h6]
  have HD := Lib.hid hd
  generalize (Val.mk k bo i t ut ui items names).can = res at *
  clear hx hi ht hut hui hd hz
  by_cases h1 : k = 1
  · have HR : Hid (res = (.mk 1 bo 0 empty empty empty [] [], 0)) := Lib.hid (by rw [HD.out, if_pos h1])
    subst h1
    clear h5 h6
    go_enter Try.func41, Try.ntmps41
    go_wp2
    rw [HR.out]
    exact bodyPost_ret (v := .tuple #[.agg #[.int .i64 1, .bool bo, .int .i64 0, .string ByteArray.empty, .string ByteArray.empty, .string ByteArray.empty, .slice none 0 0, .slice none 0 0], .int .i64 0]) (results_cell (cs := [.int .i64 1, .bool bo, .int .i64 0, .string ByteArray.empty, .string ByteArray.empty, .string ByteArray.empty, .slice none 0 0, .slice none 0 0]) Try.results41 rfl Try.agg27 Try.size27 rfl ((cellsAt_new _ _ (by simp)).alloc (by simp) _)) rfl ⟨_, rfl, Val.plain_at _ _ _ _ _ _ _ _ (by constructor <;> omega) HZ.out empty_le empty_le empty_le, (HX.out.alloc _).alloc _⟩
  by_cases h2 : k = 2
  · have HR : Hid (res = (.mk 2 false i empty empty empty [] [], 0)) := Lib.hid (by rw [HD.out, if_neg h1, if_pos h2])
    subst h2
    clear h5 h6 h1
    go_enter Try.func41, Try.ntmps41
    go_wp2
    rw [HR.out]
    exact bodyPost_ret (v := .tuple #[.agg #[.int .i64 2, .bool false, .int .i64 i, .string ByteArray.empty, .string ByteArray.empty, .string ByteArray.empty, .slice none 0 0, .slice none 0 0], .int .i64 0]) (results_cell (cs := [.int .i64 2, .bool false, .int .i64 i, .string ByteArray.empty, .string ByteArray.empty, .string ByteArray.empty, .slice none 0 0, .slice none 0 0]) Try.results41 rfl Try.agg27 Try.size27 rfl ((cellsAt_new _ _ (by simp)).alloc (by simp) _)) rfl ⟨_, rfl, Val.plain_at _ _ _ _ _ _ _ _ (by constructor <;> omega) HI.out empty_le empty_le empty_le, (HX.out.alloc _).alloc _⟩
  by_cases h3 : k = 3
  · have HR : Hid (res = (.mk 3 false 0 t empty empty [] [], 0)) := Lib.hid (by rw [HD.out, if_neg h1, if_neg h2, if_pos h3])
    subst h3
    clear h5 h6 h1 h2
    go_enter Try.func41, Try.ntmps41
    go_wp2
    rw [HR.out]
    exact bodyPost_ret (v := .tuple #[.agg #[.int .i64 3, .bool false, .int .i64 0, .string t, .string ByteArray.empty, .string ByteArray.empty, .slice none 0 0, .slice none 0 0], .int .i64 0]) (results_cell (cs := [.int .i64 3, .bool false, .int .i64 0, .string t, .string ByteArray.empty, .string ByteArray.empty, .slice none 0 0, .slice none 0 0]) Try.results41 rfl Try.agg27 Try.size27 rfl ((cellsAt_new _ _ (by simp)).alloc (by simp) _)) rfl ⟨_, rfl, Val.plain_at _ _ _ _ _ _ _ _ (by constructor <;> omega) HZ.out HT.out empty_le empty_le, (HX.out.alloc _).alloc _⟩
  by_cases h4 : k = 4
  · have HR : Hid (res = (.mk 4 false 0 empty ut ui [] [], 0)) := Lib.hid (by rw [HD.out, if_neg h1, if_neg h2, if_neg h3, if_pos h4])
    subst h4
    clear h5 h6 h1 h2 h3
    go_enter Try.func41, Try.ntmps41
    go_wp2
    rw [HR.out]
    exact bodyPost_ret (v := .tuple #[.agg #[.int .i64 4, .bool false, .int .i64 0, .string ByteArray.empty, .string ut, .string ui, .slice none 0 0, .slice none 0 0], .int .i64 0]) (results_cell (cs := [.int .i64 4, .bool false, .int .i64 0, .string ByteArray.empty, .string ut, .string ui, .slice none 0 0, .slice none 0 0]) Try.results41 rfl Try.agg27 Try.size27 rfl ((cellsAt_new _ _ (by simp)).alloc (by simp) _)) rfl ⟨_, rfl, Val.plain_at _ _ _ _ _ _ _ _ (by constructor <;> omega) HZ.out empty_le HUt.out HUi.out, (HX.out.alloc _).alloc _⟩
  have HR : Hid (res = (.zero, 1)) := Lib.hid (by rw [HD.out, if_neg h1, if_neg h2, if_neg h3, if_neg h4])
  by_cases hlow : k < 1
  · have e1 : decide (k < 1) = true := by simpa using hlow
    clear h1 h2 h3 h4 h5 h6 hlow
    go_enter Try.func41, Try.ntmps41
    go_wp2
    rw [HR.out]
    exact bodyPost_ret (v := .tuple #[.agg zeroCells.toArray, .int .i64 1]) (results_cell Try.results41 rfl Try.agg27 Try.size27 rfl (cellsAt_new _ _ (by simp))) rfl ⟨zeroCells, rfl, Val.zero_at _ _, HX.out.alloc _⟩
  · have e1 : decide (k < 1) = false := by simpa using hlow
    have e2 : decide (6 < k) = true := by simp; omega
    clear h1 h2 h3 h4 h5 h6 hlow
    go_enter Try.func41, Try.ntmps41
    go_wp2
    rw [HR.out]
    exact bodyPost_ret (v := .tuple #[.agg zeroCells.toArray, .int .i64 1]) (results_cell Try.results41 rfl Try.agg27 Try.size27 rfl (cellsAt_new _ _ (by simp))) rfl ⟨zeroCells, rfl, Val.zero_at _ _, HX.out.alloc _⟩

set_option maxRecDepth 100000 in
set_option maxHeartbeats 400000 in
/-- a record with more or fewer names than items -/
theorem canR_bad (bo : Bool) (i : Int) (t ut ui : ByteArray) (A A2 : Option Addr) (c c2 : Nat) (items : List Val) (names : List ByteArray) (w : World) (_hl1 : items.length ≤ 1073741824) (_hl2 : names.length ≤ 1073741824) (hnl : names.length ≠ items.length) :
    Calls Try.prog 41 #[.agg #[.int .i64 6, .bool bo, .int .i64 i, .string t, .string ut, .string ui, .slice A items.length c, .slice A2 names.length c2]] w
      (ValErr (Val.mk 6 bo i t ut ui items names).can.1 (Val.mk 6 bo i t ut ui items names).can.2 w) := by
  have t0 : ((names.length : Int) != items.length) = true := by simp; omega
  have hr : (Val.mk 6 bo i t ut ui items names).can = (.zero, 1) := by rw [Val.can6, if_pos hnl]
  have HR := Lib.hid hr
  generalize (Val.mk 6 bo i t ut ui items names).can = res at *
  clear hnl hr
  go_enter Try.func41, Try.ntmps41
  go_wp2
  rw [HR.out]
  exact bodyPost_ret (v := .tuple #[.agg zeroCells.toArray, .int .i64 1]) (results_cell Try.results41 rfl Try.agg27 Try.size27 rfl (cellsAt_new _ _ (by simp))) rfl ⟨zeroCells, rfl, Val.zero_at _ _, ((Ext.refl w).alloc _).alloc _⟩

set_option maxHeartbeats 400000 in
theorem canR_ok (n : Nat) : ∀ (v : Val) (S : Nat → Prop) (w : World) (cs : List Value), SizeOf.sizeOf v ≤ n → (∀ b, S b → b < w.heap.size) → Val.At S w v cs →
    Calls Try.prog 41 #[.agg cs.toArray] w (ValErr v.can.1 v.can.2 w) := by
  induction n with
  | zero => intro v; cases v; simp
  | succ n ih =>
    intro v S w cs hn hS ha
    cases v with
    | mk k bo i t ut ui items names =>
    have hA := ha
    unfold Val.At at ha
    obtain ⟨A, cap, nv, rfl, ⟨hk, hi, h1, h2, h3⟩, ⟨hl1, _⟩, _, A2, cap2, rfl, hl2, _⟩ := ha
    have hm : ∀ x ∈ items, ∀ (w1 : World) (cx : List Value), (∀ b, S b → b < w1.heap.size) → Val.At S w1 x cx → Calls Try.prog 41 #[.agg cx.toArray] w1 (ValErr x.can.1 x.can.2 w1) :=
      fun x hx w1 cx hs hx1 => ih x S w1 cx (by have := List.sizeOf_lt_of_mem hx; simp at hn; omega) hs hx1
    by_cases h5 : k = 5
    · subst h5; exact canR5_ok bo i t ut ui items names S w A A2 cap cap2 hS hA hm
    by_cases h6 : k = 6
    · subst h6
      by_cases hnl : names.length = items.length
      · exact canR6_ok bo i t ut ui items names S w A A2 cap cap2 hS hA hnl hm
      · exact canR_bad bo i t ut ui A A2 cap cap2 items names w (by rwa [LIM_eq] at hl1) (by rwa [LIM_eq] at hl2) hnl
    exact canR_plain k bo i t ut ui A A2 _ cap _ cap2 items names w h5 h6 hi h1 h2 h3

set_option maxRecDepth 100000 in
set_option maxHeartbeats 400000 in
theorem canon_okP (v : Val) (S : Nat → Prop) (w : World) (cs : List Value) (hd : v.dep ≤ 1000000) (hS : ∀ b, S b → b < w.heap.size) (ha : Val.At S w v cs) :
    Calls Try.prog 18 #[.agg cs.toArray] w (ValErr v.canon.1 v.canon.2 w) := by
  obtain ⟨k1, b1, n1, t1, ut1, ui1, A1, l1, c1, A2, l2, c2, rfl⟩ := ha.shape
  have HS := Lib.hid hS
  have Ha := Lib.hid ha
  have HD := Lib.hid (show v.canon = if 50 < v.dep then (.zero, 11) else v.can from rfl)
  have hd0 := v.dep_pos
  generalize v.canon = res at *
  clear hS ha
  have HX0 : Hid (Ext w ((w.alloc (.cells #[.int .i64 k1, .bool b1, .int .i64 n1, .string t1, .string ut1, .string ui1, .slice A1 l1 c1, .slice A2 l2 c2] 27)).alloc (.cells #[.int .i64 0, .bool false, .int .i64 0, .string ⟨#[]⟩, .string ⟨#[]⟩, .string ⟨#[]⟩, .slice none 0 0, .slice none 0 0] 27))) := Lib.hid (((Ext.refl w).alloc _).alloc _)
  go_enter Try.func18, Try.ntmps18
  go_wp2_with fail
  generalize hW0 : (w.alloc (.cells #[.int .i64 k1, .bool b1, .int .i64 n1, .string t1, .string ut1, .string ui1, .slice A1 l1 c1, .slice A2 l2 c2] 27)).alloc (.cells #[.int .i64 0, .bool false, .int .i64 0, .string ⟨#[]⟩, .string ⟨#[]⟩, .string ⟨#[]⟩, .slice none 0 0, .slice none 0 0] 27) = W0 at *
  have HB0 : Hid (W0.heap[w.heap.size]? = some (.cells #[.int .i64 k1, .bool b1, .int .i64 n1, .string t1, .string ut1, .string ui1, .slice A1 l1 c1, .slice A2 l2 c2] 27 (0, 0))) := Lib.hid (by rw [← hW0, Below.heap_alloc _ _ _ (by simp)]; exact heap_alloc_at rfl _)
  have HB1 : Hid (W0.heap[w.heap.size + 1]? = some (.cells zeroCells.toArray 27 (0, 0))) := Lib.hid (by rw [← hW0]; exact heap_alloc_at (by simp) _)
  have HS0 : Hid (W0.heap.size = w.heap.size + 2) := Lib.hid (by rw [← hW0]; simp)
  clear hW0
  refine (depth_okP _ v S _ [.int .i64 k1, .bool b1, .int .i64 n1, .string t1, .string ut1, .string ui1, .slice A1 l1 c1, .slice A2 l2 c2] (Nat.le_refl _) (by omega) (fun b hb => Nat.lt_of_lt_of_le (HS.out b hb) HX0.out.size) (Ha.out.alike (Alike.of_ext HX0.out HS.out))).mono ?_
  rintro e w1 ⟨rfl, hx1⟩
  have HX1 := Lib.hid hx1
  have hcell := (hx1.block _ (Blk_lt HB1.out)).trans HB1.out
  have HB1' := Lib.hid hcell
  have hbox := (hx1.block _ (Blk_lt HB0.out)).trans HB0.out
  have HB0' := Lib.hid hbox
  clear hx1 hcell hbox
  by_cases h50 : 50 < v.dep
  · have t0 : decide ((50 : Int) < v.dep) = true := by simp; omega
    have HR : Hid (res = (.zero, 11)) := Lib.hid (by rw [HD.out, if_pos h50])
    clear h50
    go_wp2_with (refine wpList_store_cells rfl 27 _ _ rfl (w.heap.size + 1) 0 rfl zeroCells rfl Try.size27 rfl 27 zeroCells.toArray HB1'.out (by simp [zeroCells]) zero_one ?_)
    rw [HR.out]
    exact bodyPost_ret (v := .tuple #[.agg zeroCells.toArray, .int .i64 11]) (results_cell Try.results18 rfl Try.agg27 Try.size27 rfl (cellsAt_setRow HB1'.out (by simp [zeroCells]))) rfl ⟨zeroCells, rfl, Val.zero_at _ _, (HX0.out.trans HX1.out).setRow (by omega) _⟩
  · have t0 : decide ((50 : Int) < v.dep) = false := by simp; omega
    have HR : Hid (res = v.can) := Lib.hid (by rw [HD.out, if_neg h50])
    clear h50
    go_wp2_with (refine wpList_load_cells rfl 27 _ rfl w.heap.size 0 rfl Try.agg27 Try.size27 rfl (fun j v hj => by rw [cell_of_row _ _ _ _ _ _ HB0'.out, Nat.zero_add]; simpa using hj) ?_)
    refine (canP_ok _ v S _ [.int .i64 k1, .bool b1, .int .i64 n1, .string t1, .string ut1, .string ui1, .slice A1 l1 c1, .slice A2 l2 c2] (Nat.le_refl _) (fun b hb => Nat.lt_of_lt_of_le (HS.out b hb) (HX0.out.trans HX1.out).size) (Ha.out.alike (Alike.of_ext (HX0.out.trans HX1.out) HS.out))).mono ?_
    rintro e w3 ⟨cs, rfl, hat, hx3⟩
    obtain ⟨k3, b3, n3, t3, ut3, ui3, A3, l3, c3, A4, l4, c4, rfl⟩ := hat.shape
    have HA := Lib.hid hat
    have HX3 := Lib.hid hx3
    have hcell := (hx3.block _ (Blk_lt HB1'.out)).trans HB1'.out
    have HCl := Lib.hid hcell
    have hone := hat.one
    have HOne := Lib.hid hone
    clear hat hx3 hcell hone
    rw [← HR.out] at HA
    generalize hq : v.can.2 = q
    have HQ : Hid (res.2 = q) := Lib.hid (by rw [HR.out]; exact hq)
    clear hq
    go_wp2_with (refine wpList_store_cells rfl 27 _ _ rfl (w.heap.size + 1) 0 rfl [.int .i64 k3, .bool b3, .int .i64 n3, .string t3, .string ut3, .string ui3, .slice A3 l3 c3, .slice A4 l4 c4] rfl Try.size27 rfl 27 zeroCells.toArray HCl.out (by simp [zeroCells]) HOne.out ?_)
    rw [HQ.out]
    refine bodyPost_ret (v := .tuple #[.agg #[.int .i64 k3, .bool b3, .int .i64 n3, .string t3, .string ut3, .string ui3, .slice A3 l3 c3, .slice A4 l4 c4], .int .i64 q]) (results_cell Try.results18 rfl Try.agg27 Try.size27 rfl (cellsAt_setRow HCl.out (by simp [zeroCells]))) rfl ⟨[.int .i64 k3, .bool b3, .int .i64 n3, .string t3, .string ut3, .string ui3, .slice A3 l3 c3, .slice A4 l4 c4], rfl, ?_, ((HX0.out.trans HX1.out).trans HX3.out).setRow (by omega) _⟩
    have hlow : w.heap.size + 2 ≤ w1.heap.size := by have := HS0.out; have := HX1.out.size; omega
    refine (HA.out.alike (w' := w3.setRow (w.heap.size + 1) _) (fun b hb => (GrownBy.setRow w3 (w.heap.size + 1) _).block b hb.2 (fun e => by injection e with e; have := hb.1; omega))).mono fun b hb => ⟨by have := hb.1; omega, by simpa [World.setRow] using hb.2⟩
set_option maxRecDepth 100000 in
set_option maxHeartbeats 400000 in
theorem canon_okR (v : Val) (S : Nat → Prop) (w : World) (cs : List Value) (hd : v.dep ≤ 1000000) (hS : ∀ b, S b → b < w.heap.size) (ha : Val.At S w v cs) :
    Calls Try.prog 19 #[.agg cs.toArray] w (ValErr v.canon.1 v.canon.2 w) := by
  obtain ⟨k1, b1, n1, t1, ut1, ui1, A1, l1, c1, A2, l2, c2, rfl⟩ := ha.shape
  have HS := Lib.hid hS
  have Ha := Lib.hid ha
  have HD := Lib.hid (show v.canon = if 50 < v.dep then (.zero, 11) else v.can from rfl)
  have hd0 := v.dep_pos
  generalize v.canon = res at *
  clear hS ha
  have HX0 : Hid (Ext w ((w.alloc (.cells #[.int .i64 k1, .bool b1, .int .i64 n1, .string t1, .string ut1, .string ui1, .slice A1 l1 c1, .slice A2 l2 c2] 27)).alloc (.cells #[.int .i64 0, .bool false, .int .i64 0, .string ⟨#[]⟩, .string ⟨#[]⟩, .string ⟨#[]⟩, .slice none 0 0, .slice none 0 0] 27))) := Lib.hid (((Ext.refl w).alloc _).alloc _)
  go_enter Try.func19, Try.ntmps19
  go_wp2_with fail
  generalize hW0 : (w.alloc (.cells #[.int .i64 k1, .bool b1, .int .i64 n1, .string t1, .string ut1, .string ui1, .slice A1 l1 c1, .slice A2 l2 c2] 27)).alloc (.cells #[.int .i64 0, .bool false, .int .i64 0, .string ⟨#[]⟩, .string ⟨#[]⟩, .string ⟨#[]⟩, .slice none 0 0, .slice none 0 0] 27) = W0 at *
  have HB0 : Hid (W0.heap[w.heap.size]? = some (.cells #[.int .i64 k1, .bool b1, .int .i64 n1, .string t1, .string ut1, .string ui1, .slice A1 l1 c1, .slice A2 l2 c2] 27 (0, 0))) := Lib.hid (by rw [← hW0, Below.heap_alloc _ _ _ (by simp)]; exact heap_alloc_at rfl _)
  have HB1 : Hid (W0.heap[w.heap.size + 1]? = some (.cells zeroCells.toArray 27 (0, 0))) := Lib.hid (by rw [← hW0]; exact heap_alloc_at (by simp) _)
  have HS0 : Hid (W0.heap.size = w.heap.size + 2) := Lib.hid (by rw [← hW0]; simp)
  clear hW0
  refine (depth_okR _ v S _ [.int .i64 k1, .bool b1, .int .i64 n1, .string t1, .string ut1, .string ui1, .slice A1 l1 c1, .slice A2 l2 c2] (Nat.le_refl _) (by omega) (fun b hb => Nat.lt_of_lt_of_le (HS.out b hb) HX0.out.size) (Ha.out.alike (Alike.of_ext HX0.out HS.out))).mono ?_
  rintro e w1 ⟨rfl, hx1⟩
  have HX1 := Lib.hid hx1
  have hcell := (hx1.block _ (Blk_lt HB1.out)).trans HB1.out
  have HB1' := Lib.hid hcell
  have hbox := (hx1.block _ (Blk_lt HB0.out)).trans HB0.out
  have HB0' := Lib.hid hbox
  clear hx1 hcell hbox
  by_cases h50 : 50 < v.dep
  · have t0 : decide ((50 : Int) < v.dep) = true := by simp; omega
    have HR : Hid (res = (.zero, 11)) := Lib.hid (by rw [HD.out, if_pos h50])
    clear h50
    go_wp2_with (refine wpList_store_cells rfl 27 _ _ rfl (w.heap.size + 1) 0 rfl zeroCells rfl Try.size27 rfl 27 zeroCells.toArray HB1'.out (by simp [zeroCells]) zero_one ?_)
    rw [HR.out]
    exact bodyPost_ret (v := .tuple #[.agg zeroCells.toArray, .int .i64 11]) (results_cell Try.results19 rfl Try.agg27 Try.size27 rfl (cellsAt_setRow HB1'.out (by simp [zeroCells]))) rfl ⟨zeroCells, rfl, Val.zero_at _ _, (HX0.out.trans HX1.out).setRow (by omega) _⟩
  · have t0 : decide ((50 : Int) < v.dep) = false := by simp; omega
    have HR : Hid (res = v.can) := Lib.hid (by rw [HD.out, if_neg h50])
    clear h50
    go_wp2_with (refine wpList_load_cells rfl 27 _ rfl w.heap.size 0 rfl Try.agg27 Try.size27 rfl (fun j v hj => by rw [cell_of_row _ _ _ _ _ _ HB0'.out, Nat.zero_add]; simpa using hj) ?_)
    refine (canR_ok _ v S _ [.int .i64 k1, .bool b1, .int .i64 n1, .string t1, .string ut1, .string ui1, .slice A1 l1 c1, .slice A2 l2 c2] (Nat.le_refl _) (fun b hb => Nat.lt_of_lt_of_le (HS.out b hb) (HX0.out.trans HX1.out).size) (Ha.out.alike (Alike.of_ext (HX0.out.trans HX1.out) HS.out))).mono ?_
    rintro e w3 ⟨cs, rfl, hat, hx3⟩
    obtain ⟨k3, b3, n3, t3, ut3, ui3, A3, l3, c3, A4, l4, c4, rfl⟩ := hat.shape
    have HA := Lib.hid hat
    have HX3 := Lib.hid hx3
    have hcell := (hx3.block _ (Blk_lt HB1'.out)).trans HB1'.out
    have HCl := Lib.hid hcell
    have hone := hat.one
    have HOne := Lib.hid hone
    clear hat hx3 hcell hone
    rw [← HR.out] at HA
    generalize hq : v.can.2 = q
    have HQ : Hid (res.2 = q) := Lib.hid (by rw [HR.out]; exact hq)
    clear hq
    go_wp2_with (refine wpList_store_cells rfl 27 _ _ rfl (w.heap.size + 1) 0 rfl [.int .i64 k3, .bool b3, .int .i64 n3, .string t3, .string ut3, .string ui3, .slice A3 l3 c3, .slice A4 l4 c4] rfl Try.size27 rfl 27 zeroCells.toArray HCl.out (by simp [zeroCells]) HOne.out ?_)
    rw [HQ.out]
    refine bodyPost_ret (v := .tuple #[.agg #[.int .i64 k3, .bool b3, .int .i64 n3, .string t3, .string ut3, .string ui3, .slice A3 l3 c3, .slice A4 l4 c4], .int .i64 q]) (results_cell Try.results19 rfl Try.agg27 Try.size27 rfl (cellsAt_setRow HCl.out (by simp [zeroCells]))) rfl ⟨[.int .i64 k3, .bool b3, .int .i64 n3, .string t3, .string ut3, .string ui3, .slice A3 l3 c3, .slice A4 l4 c4], rfl, ?_, ((HX0.out.trans HX1.out).trans HX3.out).setRow (by omega) _⟩
    have hlow : w.heap.size + 2 ≤ w1.heap.size := by have := HS0.out; have := HX1.out.size; omega
    refine (HA.out.alike (w' := w3.setRow (w.heap.size + 1) _) (fun b hb => (GrownBy.setRow w3 (w.heap.size + 1) _).block b hb.2 (fun e => by injection e with e; have := hb.1; omega))).mono fun b hb => ⟨by have := hb.1; omega, by simpa [World.setRow] using hb.2⟩
end Go.Proofs.Ytpkgkabcikmopaa
