/-
  A value's bytes behind others: what the document's put leaves. The conditions: the value is as it must be.
-/
import Derived.Test.YtpkgkabcikmopaaPutP
namespace Go.Proofs.Ytpkgkabcikmopaa
open Go.RowKit

theorem be4_cells (n : Nat) : #[Value.int .u8 ((n : Int) / 16777216 % 256), Value.int .u8 ((n : Int) / 65536 % 256), Value.int .u8 ((n : Int) / 256 % 256), Value.int .u8 ((n : Int) % 256)] = (cellsB (be4 n)).toArray := by
  simp [cellsB, be4]

theorem byte_eq {a b : Nat} (h : a % 256 = b % 256) : UInt8.ofNat a = UInt8.ofNat b := by
  apply UInt8.toNat_inj.1
  simpa using h
theorem be8_at {x : Nat} (hx : x < 18446744073709551616) : ∀ k, k < 8 → (be8 x)[k]? = some (UInt8.ofNat (x * 256 ^ k % 18446744073709551616 / 72057594037927936))
  | 0, _ => by simp only [be8]; exact congrArg some (byte_eq (by omega))
  | 1, _ => by simp only [be8]; exact congrArg some (byte_eq (by omega))
  | 2, _ => by simp only [be8]; exact congrArg some (byte_eq (by omega))
  | 3, _ => by simp only [be8]; exact congrArg some (byte_eq (by omega))
  | 4, _ => by simp only [be8]; exact congrArg some (byte_eq (by omega))
  | 5, _ => by simp only [be8]; exact congrArg some (byte_eq (by omega))
  | 6, _ => by simp only [be8]; exact congrArg some (byte_eq (by omega))
  | 7, _ => by simp only [be8]; exact congrArg some (byte_eq (by omega))
  | k + 8, h => by omega

set_option maxRecDepth 100000 in
theorem length_okR (n : Nat) (base : Nat) (w : World) (out : Value) (bs : List UInt8) (hrow : ByteRow base w out bs) (hbase : base ≤ w.heap.size) (hn : n ≤ 9223372036854775807) (hb : bs.length + 4 ≤ 70368744177664) :
    Calls Try.prog 86 #[out, .int .i64 n] w fun e w' => ∃ o', e = .returned o' ∧ ByteRow base w' o' (bs ++ be4 n) ∧ Put w w' out o' := by
  have HRow := Lib.hid hrow
  clear hrow
  go_enter Try.func86, Try.ntmps86
  go_wp2_with (at_builtin; refine wpList_append_bytes rfl (.tmp 5) (.tmp 21) rfl base out bs rfl (HRow.out.ext ((Ext.refl w).alloc _)) (some ⟨w.heap.size, 0, none⟩) 4 (be4 n) rfl (srcNew _ (be4 n) (be4_cells n) rfl) (by rw [be4_length]; omega) (by simp; omega) ?_)
  intro o1 w1 hrow1 hput1
  have HRow1 := Lib.hid hrow1
  have HPut1 := Lib.hid ((Put.of_ext ((Ext.refl w).alloc _) out).trans hput1)
  clear hrow1 hput1
  go_wp2_with fail
  go_ret
  exact ⟨_, rfl, HRow1.out, HPut1.out⟩
set_option maxRecDepth 100000 in
theorem text_okR (s : ByteArray) (base : Nat) (w : World) (out : Value) (bs : List UInt8) (hrow : ByteRow base w out bs) (hbase : base ≤ w.heap.size) (hb : bs.length + (txt s).length ≤ 35184372088832) :
    Calls Try.prog 85 #[out, .string s] w fun e w' => ∃ o', e = .returned o' ∧ ByteRow base w' o' (bs ++ txt s) ∧ Put w w' out o' := by
  rw [txt_length] at hb
  have HRow := Lib.hid hrow
  clear hrow
  go_enter Try.func85, Try.ntmps85
  go_wp2_with fail
  refine (length_okR s.size base w out bs HRow.out hbase (by omega) (by omega)).mono ?_
  rintro e w1 ⟨o1, rfl, hrow1, hput1⟩
  have HRow1 := Lib.hid hrow1
  have HPut1 := Lib.hid hput1
  clear hrow1 hput1
  go_wp2_with (at_builtin; refine wpList_append_str rfl (.tmp 9) (.tmp 10) rfl base o1 (bs ++ be4 s.size) rfl HRow1.out s rfl (by rw [List.length_append, be4_length]; omega) (Nat.le_trans hbase HPut1.out.grown.size) ?_)
  intro o2 w2 hrow2 hput2
  have HRow2 := Lib.hid hrow2
  have HPut2 := Lib.hid (HPut1.out.trans hput2)
  clear hrow2 hput2
  go_wp2_with fail
  go_ret
  exact ⟨_, rfl, HRow2.out, HPut2.out⟩
set_option maxRecDepth 100000 in
set_option maxHeartbeats 800000 in
theorem putR_1 (bo : Bool) : PutOk 59 (.mk 1 bo 0 empty empty empty [] []) := by
  intro S base w out bs cs hrow hbase hS hv hb
  unfold Val.At at hv
  obtain ⟨A, cap, nv, rfl, hI, hl, hr, A2, cap2, rfl, hs0, hs1, hs2, hs3, hs4⟩ := hv
  have hmass := Val.enc_length (.mk 1 bo 0 empty empty empty [] [])
  rw [Val.enc_1] at hmass ⊢
  simp only [List.length_cons, List.length_nil] at hmass
  have hno : out.ownBlock ≠ some w.heap.size := fun e => by have := (hrow.lt _ e).2; omega
  have HRow := Lib.hid hrow
  have HS := Lib.hid hS
  have HNo := Lib.hid hno
  have HR := Lib.hid hr
  have HS3 := Lib.hid hs3
  have HS4 := Lib.hid hs4
  have HI := Lib.hid hI
  obtain ⟨hl0, hl1, hl2⟩ := hl
  rw [LIM_eq] at hl0 hs0
  rw [maxLen_eq] at hl2 hs2
  clear hrow hS hno hr hs3 hs4 hI
  go_enter Try.func59, Try.ntmps59
  go_wp2_with (at_builtin; refine wpList_append_bytes rfl (.tmp 8) (.tmp 12) rfl base out bs rfl (HRow.out.ext (((Ext.refl w).alloc _).alloc _)) (some ⟨w.heap.size + 1, 0, none⟩) 1 [1] rfl (srcNew _ [1] rfl (by simp)) (by simp; omega) (by simp; omega) ?_)
  intro o1 w1 hrow1 hput1
  have hput := (Put.of_ext (((Ext.refl w).alloc (.cells #[.int .i64 1, .bool bo, .int .i64 0, .string empty, .string empty, .string empty, .slice A 0 cap, .slice A2 0 cap2] 27)).alloc (.cells #[.int .u8 1] 5)) out).trans hput1
  have hbx := (((BoxAt.new w 27 [.int .i64 1, .bool bo, .int .i64 0, .string empty, .string empty, .string empty, .slice A 0 cap, .slice A2 0 cap2]).ext ((Ext.refl _).alloc (.cells #[.int .u8 1] 5))).put hput1 HNo.out)
  have hno1 := Put.old hput1 (g := w.heap.size) (by simp; omega) HNo.out
  have HRow1 := Lib.hid hrow1
  have HPut := Lib.hid hput
  have HBx := Lib.hid hbx
  have HNo1 := Lib.hid hno1
  have hb1 : base ≤ w1.heap.size := Nat.le_trans hbase hput.grown.size
  have HB1 := Lib.hid hb1
  clear hrow1 hput1 hput hbx hno1 hb1
  obtain ⟨d0, d1, d2, d3, d4, d5, d6, d7⟩ := HBx.out.cells
  clear d2 d3 d4 d5 d6 d7
  cases bo
  · go_wp2_with (at_builtin; refine wpList_append_bytes rfl (.tmp 23) (.tmp 24) rfl base o1 (bs ++ [1]) rfl (HRow1.out.ext ((Ext.refl w1).alloc _)) (some ⟨w1.heap.size, 0, none⟩) 1 [0] rfl (srcNew _ [0] rfl (by simp)) (by simp; omega) (by have := HB1.out; simp; omega) ?_)
    intro o2 w2 hrow2 hput2
    have HRow2 := Lib.hid hrow2
    have HPut2 := Lib.hid (HPut.out.trans ((Put.of_ext ((Ext.refl w1).alloc (.cells #[.int .u8 0] 5)) o1).trans hput2))
    clear hrow2 hput2 d0 d1
    go_wp2_with fail
    go_ret
    exact ⟨_, rfl, HRow2.out, HPut2.out⟩
  · go_wp2_with (at_builtin; refine wpList_append_bytes rfl (.tmp 20) (.tmp 21) rfl base o1 (bs ++ [1]) rfl (HRow1.out.ext ((Ext.refl w1).alloc _)) (some ⟨w1.heap.size, 0, none⟩) 1 [1] rfl (srcNew _ [1] rfl (by simp)) (by simp; omega) (by have := HB1.out; simp; omega) ?_)
    intro o2 w2 hrow2 hput2
    have HRow2 := Lib.hid hrow2
    have HPut2 := Lib.hid (HPut.out.trans ((Put.of_ext ((Ext.refl w1).alloc (.cells #[.int .u8 1] 5)) o1).trans hput2))
    clear hrow2 hput2 d0 d1
    go_wp2_with fail
    go_ret
    exact ⟨_, rfl, HRow2.out, HPut2.out⟩

set_option maxRecDepth 100000 in
set_option maxHeartbeats 800000 in
theorem putR_3 (t : ByteArray) : PutOk 59 (.mk 3 false 0 t empty empty [] []) := by
  intro S base w out bs cs hrow hbase hS hv hb
  unfold Val.At at hv
  obtain ⟨A, cap, nv, rfl, hI, hl, hr, A2, cap2, rfl, hs0, hs1, hs2, hs3, hs4⟩ := hv
  have hmass := Val.enc_length (.mk 3 false 0 t empty empty [] [])
  rw [Val.enc_3] at hmass ⊢
  simp only [List.length_cons, txt_length] at hmass
  have hno : out.ownBlock ≠ some w.heap.size := fun e => by have := (hrow.lt _ e).2; omega
  have HRow := Lib.hid hrow
  have HS := Lib.hid hS
  have HNo := Lib.hid hno
  have HR := Lib.hid hr
  have HS3 := Lib.hid hs3
  have HS4 := Lib.hid hs4
  have HI := Lib.hid hI
  obtain ⟨hl0, hl1, hl2⟩ := hl
  rw [LIM_eq] at hl0 hs0
  rw [maxLen_eq] at hl2 hs2
  clear hrow hS hno hr hs3 hs4 hI
  go_enter Try.func59, Try.ntmps59
  go_wp2_with (at_builtin; refine wpList_append_bytes rfl (.tmp 8) (.tmp 12) rfl base out bs rfl (HRow.out.ext (((Ext.refl w).alloc _).alloc _)) (some ⟨w.heap.size + 1, 0, none⟩) 1 [3] rfl (srcNew _ [3] rfl (by simp)) (by simp; omega) (by simp; omega) ?_)
  intro o1 w1 hrow1 hput1
  have hput := (Put.of_ext (((Ext.refl w).alloc (.cells #[.int .i64 3, .bool false, .int .i64 0, .string t, .string empty, .string empty, .slice A 0 cap, .slice A2 0 cap2] 27)).alloc (.cells #[.int .u8 3] 5)) out).trans hput1
  have hbx := (((BoxAt.new w 27 [.int .i64 3, .bool false, .int .i64 0, .string t, .string empty, .string empty, .slice A 0 cap, .slice A2 0 cap2]).ext ((Ext.refl _).alloc (.cells #[.int .u8 3] 5))).put hput1 HNo.out)
  have hno1 := Put.old hput1 (g := w.heap.size) (by simp; omega) HNo.out
  have HRow1 := Lib.hid hrow1
  have HPut := Lib.hid hput
  have HBx := Lib.hid hbx
  have HNo1 := Lib.hid hno1
  have hb1 : base ≤ w1.heap.size := Nat.le_trans hbase hput.grown.size
  have HB1 := Lib.hid hb1
  clear hrow1 hput1 hput hbx hno1 hb1
  obtain ⟨d0, d1, d2, d3, d4, d5, d6, d7⟩ := HBx.out.cells
  go_wp2_with fail
  clear d0 d1 d2 d3 d4 d5 d6 d7
  refine (text_okR t base w1 o1 (bs ++ [3]) HRow1.out HB1.out (by simp only [List.length_append, List.length_cons, List.length_nil, txt_length]; omega)).mono ?_
  rintro e w2 ⟨o2, rfl, hrow2, hput2⟩
  have HRow2 := Lib.hid hrow2
  have HPut2 := Lib.hid (HPut.out.trans hput2)
  clear hrow2 hput2
  go_wp2_with fail
  go_ret
  exact ⟨_, rfl, by have := HRow2.out; simpa using this, HPut2.out⟩


/-- what the texts of an entity's name leave, one behind the other -/
def PutRefR (base : Nat) (w1 : World) (o1 : Value) (bs : List UInt8) (ut ui : ByteArray) (vs : List Value) (w : World) : Prop := match vs with
  | [] => Ext w1 w
  | [o2] => Put w1 w o1 o2 ∧ ByteRow base w o2 (bs ++ txt ut)
  | [_, o4] => Put w1 w o1 o4 ∧ ByteRow base w o4 (bs ++ txt ut ++ txt ui)
  | _ => False
theorem PutRefR.put {base : Nat} {w1 w : World} {o1 : Value} {bs : List UInt8} {ut ui : ByteArray} {vs : List Value} (h : PutRefR base w1 o1 bs ut ui vs w) : ∃ o', Put w1 w o1 o' := by
  unfold PutRefR at h
  split at h
  · exact ⟨_, Put.of_ext h _⟩
  · exact ⟨_, h.1⟩
  · exact ⟨_, h.1⟩
  · exact h.elim
theorem list9' {α : Type} {l : List α} (h : l.length = 9) : ∃ a0 a1 a2 a3 a4 a5 a6 a7 a8, l = [a0, a1, a2, a3, a4, a5, a6, a7, a8] := by
  match l, h with
  | [_, _, _, _, _, _, _, _, _], _ => exact ⟨_, _, _, _, _, _, _, _, _, rfl⟩

set_option maxRecDepth 100000 in
set_option maxHeartbeats 800000 in
theorem putR_4 (ut ui : ByteArray) : PutOk 59 (.mk 4 false 0 empty ut ui [] []) := by
  intro S base w out bs cs hrow hbase hS hv hb
  unfold Val.At at hv
  obtain ⟨A, cap, nv, rfl, hI, hl, hr, A2, cap2, rfl, hs0, hs1, hs2, hs3, hs4⟩ := hv
  have hmass := Val.enc_length (.mk 4 false 0 empty ut ui [] [])
  rw [Val.enc_4] at hmass ⊢
  simp only [List.length_cons, List.length_append, txt_length] at hmass
  have hno : out.ownBlock ≠ some w.heap.size := fun e => by have := (hrow.lt _ e).2; omega
  have HRow := Lib.hid hrow
  have HS := Lib.hid hS
  have HNo := Lib.hid hno
  have HR := Lib.hid hr
  have HS3 := Lib.hid hs3
  have HS4 := Lib.hid hs4
  have HI := Lib.hid hI
  obtain ⟨hl0, hl1, hl2⟩ := hl
  rw [LIM_eq] at hl0 hs0
  rw [maxLen_eq] at hl2 hs2
  clear hrow hS hno hr hs3 hs4 hI
  go_enter Try.func59, Try.ntmps59
  go_wp2_with (at_builtin; refine wpList_append_bytes rfl (.tmp 8) (.tmp 12) rfl base out bs rfl (HRow.out.ext (((Ext.refl w).alloc _).alloc _)) (some ⟨w.heap.size + 1, 0, none⟩) 1 [4] rfl (srcNew _ [4] rfl (by simp)) (by simp; omega) (by simp; omega) ?_)
  intro o1 w1 hrow1 hput1
  have hput := (Put.of_ext (((Ext.refl w).alloc (.cells #[.int .i64 4, .bool false, .int .i64 0, .string empty, .string ut, .string ui, .slice A 0 cap, .slice A2 0 cap2] 27)).alloc (.cells #[.int .u8 4] 5)) out).trans hput1
  have hbx := (((BoxAt.new w 27 [.int .i64 4, .bool false, .int .i64 0, .string empty, .string ut, .string ui, .slice A 0 cap, .slice A2 0 cap2]).ext ((Ext.refl _).alloc (.cells #[.int .u8 4] 5))).put hput1 HNo.out)
  have hno1 := Put.old hput1 (g := w.heap.size) (by simp; omega) HNo.out
  have HRow1 := Lib.hid hrow1
  have HPut := Lib.hid hput
  have HBx := Lib.hid hbx
  have HNo1 := Lib.hid hno1
  have hb1 : base ≤ w1.heap.size := Nat.le_trans hbase hput.grown.size
  have HB1 := Lib.hid hb1
  clear hrow1 hput1 hput hbx hno1 hb1
  obtain ⟨d0, d1, d2, d3, d4, d5, d6, d7⟩ := HBx.out.cells
  go_wp2_with fail
  have HD4 := Lib.hid d4
  have HD5 := Lib.hid d5
  clear d0 d1 d2 d3 d4 d5 d6 d7
  refine staged_region 9 [4, 8] [o1, .pointer (some ⟨w.heap.size, 4, none⟩), .pointer (some ⟨w.heap.size, 4, none⟩), .string ut, undef, .pointer (some ⟨w.heap.size, 4, none⟩), .pointer (some ⟨w.heap.size, 5, none⟩), .string ui, undef] (PutRefR base w1 o1 (bs ++ [4]) ut ui) (by kernel_rfl) (by kernel_rfl) (by kernel_rfl) (by kernel_rfl)
    ⟨⟨rfl, rfl, rfl, Nat.le_refl _, fun _ _ => rfl⟩, Nat.le_succ _⟩ (fun i op hi hn ho vs W a hR hold hat => ?_) (fun k i op hk ho vs W a hvl hR hold hat Q' K hK => ?_) ?_
  · obtain ⟨o', hp⟩ := hR.put
    have hblk : ∀ j, W.cell? ⟨w.heap.size, j, none⟩ = w1.cell? ⟨w.heap.size, j, none⟩ := fun j => World.cell?_of_block (a := ⟨w.heap.size, j, none⟩) (hp.grown.block w.heap.size HBx.out.1 (fun e => HNo1.out e.symm))
    rcases (by simp at hn; omega : i = 0 ∨ i = 1 ∨ i = 2 ∨ i = 3 ∨ i = 5 ∨ i = 6 ∨ i = 7) with rfl | rfl | rfl | rfl | rfl | rfl | rfl <;> obtain rfl := Option.some.inj ho
    · exact exec_move rfl (hold 0 (by kernel_rfl))
    · exact exec_field _ _ _ rfl (hold 3 (by kernel_rfl)) (Try.fieldU w.heap.size).1
    · exact exec_field _ _ _ rfl (hat 1 53 (by omega) (by kernel_rfl) (by kernel_rfl)) (Try.fieldU w.heap.size).2.1
    · exact exec_load_one _ _ rfl w.heap.size 4 (hat 2 54 (by omega) (by kernel_rfl) (by kernel_rfl)) Try.agg9 ((hblk 4).trans HD4.out)
    · exact exec_field _ _ _ rfl (hold 3 (by kernel_rfl)) (Try.fieldU w.heap.size).1
    · exact exec_field _ _ _ rfl (hat 5 57 (by omega) (by kernel_rfl) (by kernel_rfl)) (Try.fieldU w.heap.size).2.2
    · exact exec_load_one _ _ rfl w.heap.size 5 (hat 6 58 (by omega) (by kernel_rfl) (by kernel_rfl)) Try.agg9 ((hblk 5).trans HD5.out)
  · have hk4 : k < 2 := by simpa using (List.getElem?_eq_some_iff.1 hk).1
    rcases (by omega : k = 0 ∨ k = 1) with rfl | rfl <;> obtain rfl := Option.some.inj hk <;> obtain rfl := Option.some.inj ho
    · obtain rfl := List.eq_nil_of_length_eq_zero hvl
      have hR : Ext w1 W := hR
      refine wp_enter2 (Φ := fun v w' => PutRefR base w1 o1 (bs ++ [4]) ut ui [v] w') (exec_call Try.func85 rfl rfl rfl (map_two (hat 0 52 (by omega) (by kernel_rfl) (by kernel_rfl)) (hat 3 55 (by omega) (by kernel_rfl) (by kernel_rfl)))) ?_ hK
      refine (text_okR ut base W o1 (bs ++ [4]) (HRow1.out.ext hR) (Nat.le_trans HB1.out hR.size) (by simp only [List.length_append, List.length_cons, List.length_nil, txt_length]; omega)).mono ?_
      rintro e w' ⟨o', rfl, hrow, hput⟩
      exact ⟨_, rfl, (Put.of_ext hR o1).trans hput, hrow⟩
    · obtain ⟨o2, rfl⟩ := list1 hvl
      obtain ⟨hR1, hR2⟩ : Put w1 W o1 o2 ∧ ByteRow base W o2 (bs ++ [4] ++ txt ut) := hR
      refine wp_enter2 (Φ := fun v w' => PutRefR base w1 o1 (bs ++ [4]) ut ui [o2, v] w') (exec_call Try.func85 rfl rfl rfl (map_two (hat 4 56 (by omega) (by kernel_rfl) (by kernel_rfl)) (hat 7 59 (by omega) (by kernel_rfl) (by kernel_rfl)))) ?_ hK
      refine (text_okR ui base W o2 (bs ++ [4] ++ txt ut) hR2 (Nat.le_trans HB1.out hR1.grown.size) (by simp only [List.length_append, List.length_cons, List.length_nil, txt_length]; omega)).mono ?_
      rintro e w' ⟨o', rfl, hrow, hput⟩
      exact ⟨_, rfl, hR1.trans hput, hrow⟩
  intro xs vs W hxl hvl hR hxs
  obtain ⟨o2, o4, rfl⟩ := list2 hvl
  obtain ⟨x0, x1, x2, x3, x4, x5, x6, x7, x8, rfl⟩ := list9' hxl
  have h8 : x8 = o4 := hxs 8 (by omega)
  obtain ⟨hR1, hR2⟩ : Put w1 W o1 o4 ∧ ByteRow base W o4 (bs ++ [4] ++ txt ut ++ txt ui) := hR
  subst h8
  clear hxs hxl hvl
  have HR1 := Lib.hid (HPut.out.trans hR1)
  have HR2 := Lib.hid hR2
  clear hR1 hR2
  simp only [List.take, List.drop, putAll]
  go_wp2_with fail
  go_ret
  exact ⟨_, rfl, by have := HR2.out; simp only [List.append_assoc] at this; exact this, HR1.out⟩

set_option maxRecDepth 100000 in
set_option maxHeartbeats 800000 in
theorem putR_2 (n : Int) : PutOk 59 (.mk 2 false n empty empty empty [] []) := by
  intro S base w out bs cs hrow hbase hS hv hb
  unfold Val.At at hv
  obtain ⟨A, cap, nv, rfl, hI, hl, hr, A2, cap2, rfl, hs0, hs1, hs2, hs3, hs4⟩ := hv
  have hmass := Val.enc_length (.mk 2 false n empty empty empty [] [])
  rw [Val.enc_2] at hmass ⊢
  simp only [List.length_cons, be8_length] at hmass
  have hno : out.ownBlock ≠ some w.heap.size := fun e => by have := (hrow.lt _ e).2; omega
  have HRow := Lib.hid hrow
  have HS := Lib.hid hS
  have HNo := Lib.hid hno
  have HR := Lib.hid hr
  have HS3 := Lib.hid hs3
  have HS4 := Lib.hid hs4
  have HI := Lib.hid hI
  obtain ⟨hl0, hl1, hl2⟩ := hl
  rw [LIM_eq] at hl0 hs0
  rw [maxLen_eq] at hl2 hs2
  clear hrow hS hno hr hs3 hs4 hI
  go_enter Try.func59, Try.ntmps59
  go_wp2_with (at_builtin; refine wpList_append_bytes rfl (.tmp 8) (.tmp 12) rfl base out bs rfl (HRow.out.ext (((Ext.refl w).alloc _).alloc _)) (some ⟨w.heap.size + 1, 0, none⟩) 1 [2] rfl (srcNew _ [2] rfl (by simp)) (by simp; omega) (by simp; omega) ?_)
  intro o1 w1 hrow1 hput1
  have hput := (Put.of_ext (((Ext.refl w).alloc (.cells #[.int .i64 2, .bool false, .int .i64 n, .string empty, .string empty, .string empty, .slice A 0 cap, .slice A2 0 cap2] 27)).alloc (.cells #[.int .u8 2] 5)) out).trans hput1
  have hbx := (((BoxAt.new w 27 [.int .i64 2, .bool false, .int .i64 n, .string empty, .string empty, .string empty, .slice A 0 cap, .slice A2 0 cap2]).ext ((Ext.refl _).alloc (.cells #[.int .u8 2] 5))).put hput1 HNo.out)
  have hno1 := Put.old hput1 (g := w.heap.size) (by simp; omega) HNo.out
  have HRow1 := Lib.hid hrow1
  have HPut := Lib.hid hput
  have HBx := Lib.hid hbx
  have HNo1 := Lib.hid hno1
  have hb1 : base ≤ w1.heap.size := Nat.le_trans hbase hput.grown.size
  have HB1 := Lib.hid hb1
  clear hrow1 hput1 hput hbx hno1 hb1
  obtain ⟨d0, d1, d2, d3, d4, d5, d6, d7⟩ := HBx.out.cells
  have he : IntKind.u64.wrap n = ((bits64 n : Nat) : Int) := Try.u64_bits n
  go_wp2_with fail
  clear d0 d1 d2 d3 d4 d5 d6 d7
  have hx := bits64_lt n
  clear he
  go_loopw [0, 5, 6] (fun u0 u5 u6 wr => ∃ k y : Nat, k ≤ 8 ∧ y < 18446744073709551616 ∧ u6 = .int .i64 k ∧ u5 = .int .u64 y ∧ Hid (y = (bits64 n) * 256 ^ k % 18446744073709551616 ∧ ByteRow base wr u0 (bs ++ [2] ++ (be8 (bits64 n)).take k) ∧ Put w wr out u0)) (fun _ _ u6 _ => 8 - (intOf u6).toNat)
  case atStart => exact ⟨0, bits64 n, by omega, hx, rfl, rfl, by rw [Nat.pow_zero, Nat.mul_one, Nat.mod_eq_of_lt hx], by simpa using HRow1.out, HPut.out⟩
  case round =>
    obtain ⟨k, y, hk, hy, rfl, rfl, HL⟩ := hrel
    by_cases hlt : k < 8
    · obtain ⟨hyk, hrow, hput⟩ := HL.out
      have HRw := Lib.hid hrow
      have HPw := Lib.hid hput
      have HYk := Lib.hid hyk
      have HBw := Lib.hid (Nat.le_trans hbase hput.grown.size)
      have hw : IntKind.u64.wrap ((y : Int) * 256) = ((y * 256 % 18446744073709551616 : Nat) : Int) := by simp [IntKind.wrap, IntKind.signed, IntKind.bits]
      clear hrow hput hyk HL
      go_wp2_with (at_builtin; refine wpList_append_bytes rfl (.tmp 35) (.tmp 39) rfl base _ (bs ++ [2] ++ (be8 (bits64 n)).take k) rfl (HRw.out.ext ((Ext.refl wr).alloc _)) (some ⟨wr.heap.size, 0, none⟩) 1 [UInt8.ofNat (y / 72057594037927936)] rfl (srcNew _ [UInt8.ofNat (y / 72057594037927936)] (by simp [cellsB]; omega) rfl) (by simp [be8_length]; omega) (by have := HBw.out; simp; omega) ?_)
      intro o3 w3 hrow3 hput3
      have HRow3 := Lib.hid hrow3
      have HPut3 := Lib.hid (HPw.out.trans ((Put.of_ext ((Ext.refl wr).alloc _) _).trans hput3))
      clear hrow3 hput3
      go_wp2_with fail
      go_roundw
      case rel =>
        refine ⟨k + 1, y * 256 % 18446744073709551616, by omega, by omega, by go_num, ?_, ?_, ?_, HPut3.out⟩
        · first | rfl | go_num
        · rw [HYk.out, Nat.pow_succ, ← Nat.mul_assoc]; omega
        · rw [take_succ_of (be8_at hx k hlt), ← HYk.out]
          have := HRow3.out
          simpa [List.append_assoc] using this
      case measure => simp [intOf]; omega
    · have hke : k = 8 := by omega
      subst hke
      obtain ⟨_, hrow, hput⟩ := HL.out
      have HRw := Lib.hid hrow
      have HPw := Lib.hid hput
      clear hrow hput HL
      go_wp2_with fail
      go_ret
      exact ⟨_, rfl, by have := HRw.out; rw [show (be8 (bits64 n)).take 8 = be8 (bits64 n) from rfl] at this; simpa [List.append_assoc] using this, HPw.out⟩

set_option maxRecDepth 100000 in
set_option maxHeartbeats 800000 in
theorem putR_5 (items : List Val) (ih : ∀ x ∈ items, PutOk 59 x) : PutOk 59 (.mk 5 false 0 empty empty empty items []) := by
  intro S base w out bs cs hrow hbase hS hv hb
  unfold Val.At at hv
  obtain ⟨A, cap, nv, rfl, hI, hl, hr, A2, cap2, rfl, hs0, hs1, hs2, hs3, hs4⟩ := hv
  have hmass := Val.enc_length (.mk 5 false 0 empty empty empty items [])
  rw [Val.enc_5] at hmass ⊢
  simp only [List.length_cons, List.length_append, be4_length] at hmass
  have hno : out.ownBlock ≠ some w.heap.size := fun e => by have := (hrow.lt _ e).2; omega
  have HRow := Lib.hid hrow
  have HS := Lib.hid hS
  have HNo := Lib.hid hno
  have HR := Lib.hid hr
  have HS3 := Lib.hid hs3
  have HS4 := Lib.hid hs4
  have HI := Lib.hid hI
  obtain ⟨hl0, hl1, hl2⟩ := hl
  rw [LIM_eq] at hl0 hs0
  rw [maxLen_eq] at hl2 hs2
  clear hrow hS hno hr hs3 hs4 hI
  go_enter Try.func59, Try.ntmps59
  go_wp2_with (at_builtin; refine wpList_append_bytes rfl (.tmp 8) (.tmp 12) rfl base out bs rfl (HRow.out.ext (((Ext.refl w).alloc _).alloc _)) (some ⟨w.heap.size + 1, 0, none⟩) 1 [5] rfl (srcNew _ [5] rfl (by simp)) (by simp; omega) (by simp; omega) ?_)
  intro o1 w1 hrow1 hput1
  have hput := (Put.of_ext (((Ext.refl w).alloc (.cells #[.int .i64 5, .bool false, .int .i64 0, .string empty, .string empty, .string empty, .slice A items.length cap, .slice A2 0 cap2] 27)).alloc (.cells #[.int .u8 5] 5)) out).trans hput1
  have hbx := (((BoxAt.new w 27 [.int .i64 5, .bool false, .int .i64 0, .string empty, .string empty, .string empty, .slice A items.length cap, .slice A2 0 cap2]).ext ((Ext.refl _).alloc (.cells #[.int .u8 5] 5))).put hput1 HNo.out)
  have hno1 := Put.old hput1 (g := w.heap.size) (by simp; omega) HNo.out
  have HRow1 := Lib.hid hrow1
  have HPut := Lib.hid hput
  have HBx := Lib.hid hbx
  have HNo1 := Lib.hid hno1
  have hb1 : base ≤ w1.heap.size := Nat.le_trans hbase hput.grown.size
  have HB1 := Lib.hid hb1
  clear hrow1 hput1 hput hbx hno1 hb1
  obtain ⟨d0, d1, d2, d3, d4, d5, d6, d7⟩ := HBx.out.cells
  go_wp2_with fail
  refine (length_okR items.length base w1 o1 (bs ++ [5]) HRow1.out HB1.out (by omega) (by simp only [List.length_append, List.length_cons, List.length_nil]; omega)).mono ?_
  rintro e w3 ⟨o3, rfl, hrow3, hput3⟩
  have HRow3 := Lib.hid hrow3
  have HPut3 := Lib.hid (HPut.out.trans hput3)
  have HBx3 := Lib.hid ((HBx.out).put hput3 (HNo1.out))
  have HNo3 := Lib.hid (Put.old hput3 (g := w.heap.size) HBx.out.1 HNo1.out)
  clear hrow3 hput3 HRow1 HPut HBx HNo1 HB1 d0 d1 d2 d3 d4 d5 d6 d7
  go_wp2_with fail
  go_loopw [0, 7] (fun u0 u7 wr => ∃ k : Nat, k ≤ items.length ∧ u7 = .int .i64 k ∧ Hid (ByteRow base wr u0 (bs ++ [5] ++ be4 items.length ++ Val.encs false (items.take k) []) ∧ Put w wr out u0 ∧ BoxAt wr w.heap.size [.int .i64 5, .bool false, .int .i64 0, .string empty, .string empty, .string empty, .slice A items.length cap, .slice A2 0 cap2] ∧ u0.ownBlock ≠ some w.heap.size)) (fun _ u7 _ => items.length - (intOf u7).toNat)
  case atStart => exact ⟨0, Nat.zero_le _, rfl, by simpa [Val.encs] using HRow3.out, HPut3.out, HBx3.out, HNo3.out⟩
  case round =>
    obtain ⟨k, hk, rfl, HL⟩ := hrel
    obtain ⟨hrow, hput, hbx, hno⟩ := HL.out
    obtain ⟨d0, d1, d2, d3, d4, d5, d6, d7⟩ := hbx.cells
    by_cases hlt : k < items.length
    · obtain ⟨x, hx⟩ : ∃ x, items[k]? = some x := ⟨_, List.getElem?_eq_getElem hlt⟩
      obtain ⟨bI, oI, rfl, hSb, hrowI⟩ := HR.out (by omega)
      obtain ⟨cx, hcl, hca, hxa⟩ := hrowI.get hx
      have hal := hput.alike HS.out
      have hap := hput.apart HS.out
      have hbw : base ≤ wr.heap.size := Nat.le_trans hbase hput.grown.size
      obtain ⟨x0, x1, x2, x3, x4, x5, x6, x7, x8, x9, xa, xb, rfl⟩ := hxa.shape
      have hbound := Val.encs_bound (rc := false) (l := items) (names := []) (k := k) (x := x) (nm := empty) hx (fun e => by cases e)
      have hb2 : (bs ++ [5] ++ be4 items.length ++ Val.encs false (items.take k) []).length + 17 * x.mass ≤ 35184372088832 := by
        simp only [Val.mass] at hb
        simp only [List.length_append, List.length_cons, List.length_nil, be4_length]
        simp at hbound
        omega
      have HHc := Lib.hid (hca.alike hSb hal)
      have HXa := Lib.hid (hxa.alike hal)
      have HSb := Lib.hid hSb
      have HAp := Lib.hid hap
      have HRow := Lib.hid hrow
      have HPutw := Lib.hid hput
      have HBx4 := Lib.hid hbx
      have HNo4 := Lib.hid hno
      have Hx := Lib.hid hx
      have HBd := Lib.hid hb2
      have HBw := Lib.hid hbw
      clear hrow hput hbx hno hx hca hxa hal hap hbound hb2 hbw hSb hrowI hcl
      go_wp2_with (refine wpList_load_cells rfl 27 (.tmp 87) rfl bI (oI + k * 8) rfl Try.agg27 Try.size27 rfl HHc.out ?_)
      clear d0 d1 d2 d3 d4 d5 d6 d7
      refine (ih x (List.mem_of_getElem? Hx.out) S base wr _ _ [_, _, _, _, _, _, _, _] HRow.out HBw.out HAp.out HXa.out HBd.out).mono ?_
      rintro e w7 ⟨o7, rfl, hrow7, hput7⟩
      have HRow7 := Lib.hid hrow7
      have HPut7 := Lib.hid (HPutw.out.trans hput7)
      have HBx7 := Lib.hid (HBx4.out.put hput7 HNo4.out)
      have HNo7 := Lib.hid (Put.old hput7 (g := w.heap.size) HBx4.out.1 HNo4.out)
      clear hrow7 hput7
      go_wp2_with fail
      go_roundw
      case rel =>
        refine ⟨k + 1, by omega, by go_num, ?_, HPut7.out, HBx7.out, HNo7.out⟩
        rw [Val.encs_snoc (nm := empty) Hx.out (fun e => by cases e)]
        have := HRow7.out
        simpa [List.append_assoc] using this
      case measure => simp [intOf]; omega
    · have hke : items.length = k := by omega
      rw [← hke, List.take_length] at hrow
      have HRow := Lib.hid hrow
      have HPutw := Lib.hid hput
      clear hrow hput HL
      have hlt' : k = items.length := by omega
      subst hlt'
      go_wp2_with fail
      go_ret
      exact ⟨_, rfl, by have := HRow.out; simpa [List.append_assoc] using this, HPutw.out⟩

set_option maxRecDepth 100000 in
set_option maxHeartbeats 800000 in
theorem putR_6 (items : List Val) (names : List ByteArray) (hlen : names.length = items.length) (ih : ∀ x ∈ items, PutOk 59 x) : PutOk 59 (.mk 6 false 0 empty empty empty items names) := by
  have HLen := Lib.hid hlen
  clear hlen
  intro S base w out bs cs hrow hbase hS hv hb
  unfold Val.At at hv
  obtain ⟨A, cap, nv, rfl, hI, hl, hr, A2, cap2, rfl, hs0, hs1, hs2, hs3, hs4⟩ := hv
  have hmass := Val.enc_length (.mk 6 false 0 empty empty empty items names)
  rw [Val.enc_6] at hmass ⊢
  simp only [List.length_cons, List.length_append, be4_length] at hmass
  have hno : out.ownBlock ≠ some w.heap.size := fun e => by have := (hrow.lt _ e).2; omega
  have HRow := Lib.hid hrow
  have HS := Lib.hid hS
  have HNo := Lib.hid hno
  have HR := Lib.hid hr
  have HS3 := Lib.hid hs3
  have HS4 := Lib.hid hs4
  have HI := Lib.hid hI
  obtain ⟨hl0, hl1, hl2⟩ := hl
  rw [LIM_eq] at hl0 hs0
  rw [maxLen_eq] at hl2 hs2
  clear hrow hS hno hr hs3 hs4 hI
  go_enter Try.func59, Try.ntmps59
  go_wp2_with (at_builtin; refine wpList_append_bytes rfl (.tmp 8) (.tmp 12) rfl base out bs rfl (HRow.out.ext (((Ext.refl w).alloc _).alloc _)) (some ⟨w.heap.size + 1, 0, none⟩) 1 [6] rfl (srcNew _ [6] rfl (by simp)) (by simp; omega) (by simp; omega) ?_)
  intro o1 w1 hrow1 hput1
  have hput := (Put.of_ext (((Ext.refl w).alloc (.cells #[.int .i64 6, .bool false, .int .i64 0, .string empty, .string empty, .string empty, .slice A items.length cap, .slice A2 names.length cap2] 27)).alloc (.cells #[.int .u8 6] 5)) out).trans hput1
  have hbx := (((BoxAt.new w 27 [.int .i64 6, .bool false, .int .i64 0, .string empty, .string empty, .string empty, .slice A items.length cap, .slice A2 names.length cap2]).ext ((Ext.refl _).alloc (.cells #[.int .u8 6] 5))).put hput1 HNo.out)
  have hno1 := Put.old hput1 (g := w.heap.size) (by simp; omega) HNo.out
  have HRow1 := Lib.hid hrow1
  have HPut := Lib.hid hput
  have HBx := Lib.hid hbx
  have HNo1 := Lib.hid hno1
  have hb1 : base ≤ w1.heap.size := Nat.le_trans hbase hput.grown.size
  have HB1 := Lib.hid hb1
  clear hrow1 hput1 hput hbx hno1 hb1
  obtain ⟨d0, d1, d2, d3, d4, d5, d6, d7⟩ := HBx.out.cells
  go_wp2_with fail
  refine (length_okR items.length base w1 o1 (bs ++ [6]) HRow1.out HB1.out (by omega) (by simp only [List.length_append, List.length_cons, List.length_nil]; omega)).mono ?_
  rintro e w3 ⟨o3, rfl, hrow3, hput3⟩
  have HRow3 := Lib.hid hrow3
  have HPut3 := Lib.hid (HPut.out.trans hput3)
  have HBx3 := Lib.hid ((HBx.out).put hput3 (HNo1.out))
  have HNo3 := Lib.hid (Put.old hput3 (g := w.heap.size) HBx.out.1 HNo1.out)
  clear hrow3 hput3 HRow1 HPut HBx HNo1 HB1 d0 d1 d2 d3 d4 d5 d6 d7
  go_wp2_with fail
  go_loopw [0, 7] (fun u0 u7 wr => ∃ k : Nat, k ≤ items.length ∧ u7 = .int .i64 k ∧ Hid (ByteRow base wr u0 (bs ++ [6] ++ be4 items.length ++ Val.encs true (items.take k) names) ∧ Put w wr out u0 ∧ BoxAt wr w.heap.size [.int .i64 6, .bool false, .int .i64 0, .string empty, .string empty, .string empty, .slice A items.length cap, .slice A2 names.length cap2] ∧ u0.ownBlock ≠ some w.heap.size)) (fun _ u7 _ => items.length - (intOf u7).toNat)
  case atStart => exact ⟨0, Nat.zero_le _, rfl, by simpa [Val.encs] using HRow3.out, HPut3.out, HBx3.out, HNo3.out⟩
  case round =>
    obtain ⟨k, hk, rfl, HL⟩ := hrel
    obtain ⟨hrow, hput, hbx, hno⟩ := HL.out
    obtain ⟨d0, d1, d2, d3, d4, d5, d6, d7⟩ := hbx.cells
    by_cases hlt : k < items.length
    · obtain ⟨x, hx⟩ : ∃ x, items[k]? = some x := ⟨_, List.getElem?_eq_getElem hlt⟩
      obtain ⟨bI, oI, rfl, hSb, hrowI⟩ := HR.out (by omega)
      obtain ⟨cx, hcl, hca, hxa⟩ := hrowI.get hx
      have hal := hput.alike HS.out
      have hap := hput.apart HS.out
      obtain ⟨nmk, hnm⟩ : ∃ s, names[k]? = some s := ⟨_, List.getElem?_eq_getElem (by have := HLen.out; omega)⟩
      obtain ⟨bN, oN, rfl, hSN, hcN⟩ := HS4.out (by have := HLen.out; omega)
      have hcN' := hcN.alike hSN hal
      have f0 : wr.cell? ⟨bN, oN + k, none⟩ = some (.string nmk) := hcN' k _ (by rw [List.getElem?_map, hnm]; rfl)
      have q5 : k < names.length := by have := HLen.out; omega
      have HNm := Lib.hid hnm
      clear hcN hcN' hSN hnm
      have hbw : base ≤ wr.heap.size := Nat.le_trans hbase hput.grown.size
      obtain ⟨x0, x1, x2, x3, x4, x5, x6, x7, x8, x9, xa, xb, rfl⟩ := hxa.shape
      have hbound := Val.encs_bound (rc := true) (l := items) (names := names) (k := k) (x := x) (nm := nmk) hx (fun _ => HNm.out)
      have hb2 : (bs ++ [6] ++ be4 items.length ++ Val.encs true (items.take k) names).length + (txt nmk).length + 17 * x.mass ≤ 35184372088832 := by
        simp only [Val.mass] at hb
        simp only [List.length_append, List.length_cons, List.length_nil, be4_length]
        simp at hbound
        omega
      have HHc := Lib.hid (hca.alike hSb hal)
      have HXa := Lib.hid (hxa.alike hal)
      have HSb := Lib.hid hSb
      have HAp := Lib.hid hap
      have HRow := Lib.hid hrow
      have HPutw := Lib.hid hput
      have HBx4 := Lib.hid hbx
      have HNo4 := Lib.hid hno
      have Hx := Lib.hid hx
      have HBd := Lib.hid hb2
      have HBw := Lib.hid hbw
      clear hrow hput hbx hno hx hca hxa hal hap hbound hb2 hbw hSb hrowI hcl
      go_wp2_with fail
      refine (text_okR nmk base wr _ _ HRow.out HBw.out (by have := HBd.out; omega)).mono ?_
      rintro e w6 ⟨o6, rfl, hrow6, hput6⟩
      have HRow6 := Lib.hid hrow6
      have HPut6 := Lib.hid (HPutw.out.trans hput6)
      have hbx6 := HBx4.out.put hput6 HNo4.out
      have HBx6 := Lib.hid hbx6
      have HNo6 := Lib.hid (Put.old hput6 (g := w.heap.size) HBx4.out.1 HNo4.out)
      have HAp6 := Lib.hid (hput6.apart HAp.out)
      have HXa6 := Lib.hid (HXa.out.alike (hput6.alike HAp.out))
      have HHc6 := Lib.hid (HHc.out.alike HSb.out (hput6.alike HAp.out))
      have HBw6 := Lib.hid (Nat.le_trans HBw.out hput6.grown.size)
      clear hrow6 hput6 f0 d0 d1 d2 d3 d4 d5 d6 d7
      obtain ⟨d0, d1, d2, d3, d4, d5, d6, d7⟩ := hbx6.cells
      clear hbx6
      go_wp2_with (refine wpList_load_cells rfl 27 (.tmp 87) rfl bI (oI + k * 8) rfl Try.agg27 Try.size27 rfl HHc6.out ?_)
      clear d0 d1 d2 d3 d4 d5 d6 d7
      refine (ih x (List.mem_of_getElem? Hx.out) S base w6 _ _ [_, _, _, _, _, _, _, _] HRow6.out HBw6.out HAp6.out HXa6.out (by have := HBd.out; simp only [List.length_append, List.length_cons, List.length_nil] at this ⊢; omega)).mono ?_
      rintro e w7 ⟨o7, rfl, hrow7, hput7⟩
      have HRow7 := Lib.hid hrow7
      have HPut7 := Lib.hid (HPut6.out.trans hput7)
      have HBx7 := Lib.hid (HBx6.out.put hput7 HNo6.out)
      have HNo7 := Lib.hid (Put.old hput7 (g := w.heap.size) HBx6.out.1 HNo6.out)
      clear hrow7 hput7
      go_wp2_with fail
      go_roundw
      case rel =>
        refine ⟨k + 1, by omega, by go_num, ?_, HPut7.out, HBx7.out, HNo7.out⟩
        rw [Val.encs_snoc Hx.out (fun _ => HNm.out)]
        have := HRow7.out
        simpa [List.append_assoc] using this
      case measure => simp [intOf]; omega
    · have hke : items.length = k := by omega
      rw [← hke, List.take_length] at hrow
      have HRow := Lib.hid hrow
      have HPutw := Lib.hid hput
      clear hrow hput HL
      have hlt' : k = items.length := by omega
      subst hlt'
      go_wp2_with fail
      go_ret
      exact ⟨_, rfl, by have := HRow.out; simpa [List.append_assoc] using this, HPutw.out⟩

theorem putR_ok : ∀ (n : Nat) (v : Val), SizeOf.sizeOf v ≤ n → v.Is → PutOk 59 v
  | 0, v, h, _ => by cases v; simp at h
  | n + 1, .mk k bo i t ut ui items names, h, hi => by
    have hs : ∀ x ∈ items, SizeOf.sizeOf x ≤ n := fun x hx => by
      have := List.sizeOf_lt_of_mem hx
      simp at h; omega
    unfold Val.Is at hi
    rcases hi with ⟨rfl, rfl, rfl, rfl, rfl, rfl, rfl⟩ | ⟨rfl, rfl, rfl, rfl, rfl, rfl, rfl⟩ | ⟨rfl, rfl, rfl, rfl, rfl, rfl, rfl⟩ | ⟨rfl, rfl, rfl, rfl, rfl, rfl⟩ | ⟨rfl, rfl, rfl, rfl, rfl, rfl, rfl, _, _, ha⟩ | ⟨rfl, rfl, rfl, rfl, rfl, rfl, hl, _, _, ha⟩
    · exact putR_1 bo
    · exact putR_2 i
    · exact putR_3 t
    · exact putR_4 ut ui
    · exact putR_5 items fun x hx => putR_ok n x (hs x hx) ((Val.are_iff items).1 ha x hx)
    · exact putR_6 items names hl fun x hx => putR_ok n x (hs x hx) ((Val.are_iff items).1 ha x hx)

end Go.Proofs.Ytpkgkabcikmopaa
