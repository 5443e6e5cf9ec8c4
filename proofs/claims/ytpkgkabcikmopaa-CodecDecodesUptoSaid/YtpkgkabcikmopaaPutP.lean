/-
  A value's bytes behind others: what the program's put leaves. The conditions: the value is as it must be.
-/
import Derived.Test.YtpkgkabcikmopaaNumber
namespace Go.Proofs.Ytpkgkabcikmopaa
open Go.RowKit

theorem BoxAt.put {w w' : World} {g : Nat} {cs : List Value} {o o' : Value} (h : BoxAt w g cs) (k : Put w w' o o') (hne : o.ownBlock ≠ some g) : BoxAt w' g cs := by
  refine ⟨Nat.lt_of_lt_of_le h.1 k.grown.size, fun j v hj => ?_⟩
  exact (World.cell?_of_block (a := ⟨g, 0 + j, none⟩) (k.grown.block g h.1 (fun e => hne e.symm))).trans (h.2 j v hj)
theorem srcNew (w : World) (bs : List UInt8) {cs : Array Value} (h : cs = (cellsB bs).toArray) {g n : Nat} (hg : g = w.heap.size) : SrcAt (w.alloc (.cells cs 5)) (some ⟨g, 0, none⟩) n (cellsB bs) := fun _ => ⟨g, 0, rfl, by subst h hg; exact cellsAt_new _ _ rfl⟩
theorem Put.old {w w' : World} {o o' : Value} (h : Put w w' o o') {g : Nat} (hg : g < w.heap.size) (hne : o.ownBlock ≠ some g) : o'.ownBlock ≠ some g := fun e => by
  rcases h.own g e with h1 | h1
  · exact hne h1
  · omega

/-- what put is to leave of a value -/
def PutOk (f : FuncId) (v : Val) : Prop := ∀ (S : Nat → Prop) (base : Nat) (w : World) (out : Value) (bs : List UInt8) (cs : List Value), ByteRow base w out bs → base ≤ w.heap.size → (∀ b, S b → b < w.heap.size ∧ out.ownBlock ≠ some b) → Val.At S w v cs → bs.length + 17 * v.mass ≤ 35184372088832 →
  Calls Try.prog f #[out, .agg cs.toArray] w fun e w' => ∃ o', e = .returned o' ∧ ByteRow base w' o' (bs ++ v.enc) ∧ Put w w' out o'

theorem Try.u64_bits (n : Int) : IntKind.u64.wrap n = ((bits64 n : Nat) : Int) := by
  unfold bits64
  simp [IntKind.wrap, IntKind.signed, IntKind.bits]
  omega

set_option maxRecDepth 100000 in
set_option maxHeartbeats 800000 in
theorem putP_1 (bo : Bool) : PutOk 58 (.mk 1 bo 0 empty empty empty [] []) := by
  intro S base w out bs cs hrow hbase hS hv hb
  unfold Val.At at hv
  obtain ⟨A, cap, nv, rfl, hI, hl, hr, A2, cap2, rfl, hs0, hs1, hs2, hs3, hs4⟩ := hv
  have hmass := Val.enc_length (.mk 1 bo 0 empty empty empty [] [])
  rw [Val.enc_1] at hmass ⊢
  simp only [List.length_cons, List.length_nil] at hmass
  have hno : out.ownBlock ≠ some w.heap.size := fun e => by have := (hrow.lt _ e).2; omega
  have hno1 : out.ownBlock ≠ some (w.heap.size + 1) := fun e => by have := (hrow.lt _ e).2; omega
  have HRow := Lib.hid hrow
  have HS := Lib.hid hS
  have HNo := Lib.hid hno
  have HR := Lib.hid hr
  have HS3 := Lib.hid hs3
  have HS4 := Lib.hid hs4
  have HI := Lib.hid hI
  obtain ⟨hl0, hl1, hl2⟩ := hl
  rw [LIM_eq] at hl0 hs0
  rw [maxLen_eq] at hl2 hs2
  clear hrow hS hno hr hs3 hs4 hI hno1
  go_enter Try.func58, Try.ntmps58
  go_wp2_with (at_builtin; refine wpList_append_bytes rfl (.tmp 7) (.tmp 11) rfl base out bs rfl (HRow.out.ext (((Ext.refl w).alloc _).alloc _)) (some ⟨w.heap.size + 1, 0, none⟩) 1 [1] rfl (srcNew _ [1] rfl (by simp)) (by simp; omega) (by simp; omega) ?_)
  intro o1 w1 hrow1 hput1
  have hput := (Put.of_ext (((Ext.refl w).alloc (.cells #[.int .i64 1, .bool bo, .int .i64 0, .string empty, .string empty, .string empty, .slice A 0 cap, .slice A2 0 cap2] 27)).alloc (.cells #[.int .u8 1] 5)) out).trans hput1
  have hbx := (((BoxAt.new w 27 [.int .i64 1, .bool bo, .int .i64 0, .string empty, .string empty, .string empty, .slice A 0 cap, .slice A2 0 cap2]).ext ((Ext.refl _).alloc (.cells #[.int .u8 1] 5))).put hput1 HNo.out)
  have hno1 := Put.old hput1 (g := w.heap.size) (by simp; omega) HNo.out
  have HRow1 := Lib.hid hrow1
  have HPut := Lib.hid hput
  have HBx := Lib.hid hbx
  have HNo1 := Lib.hid hno1
  have hb1 : base ≤ w1.heap.size := Nat.le_trans hbase hput.grown.size
  have HB1 := Lib.hid hb1
  clear hrow1 hput1 hput hbx hno1 hb1
  obtain ⟨d0, d1, d2, d3, d4, d5, d6, d7⟩ := HBx.out.cells
  clear d2 d3 d4 d5 d6 d7
  cases bo
  · go_wp2_with (at_builtin; refine wpList_append_bytes rfl (.tmp 22) (.tmp 23) rfl base o1 (bs ++ [1]) rfl (HRow1.out.ext ((Ext.refl w1).alloc _)) (some ⟨w1.heap.size, 0, none⟩) 1 [0] rfl (srcNew _ [0] rfl (by simp)) (by simp; omega) (by have := HB1.out; simp; omega) ?_)
    intro o2 w2 hrow2 hput2
    have HRow2 := Lib.hid hrow2
    have HPut2 := Lib.hid (HPut.out.trans ((Put.of_ext ((Ext.refl w1).alloc (.cells #[.int .u8 0] 5)) o1).trans hput2))
    clear hrow2 hput2 d0 d1
    go_wp2_with fail
    go_ret
    exact ⟨_, rfl, HRow2.out, HPut2.out⟩
  · go_wp2_with (at_builtin; refine wpList_append_bytes rfl (.tmp 19) (.tmp 20) rfl base o1 (bs ++ [1]) rfl (HRow1.out.ext ((Ext.refl w1).alloc _)) (some ⟨w1.heap.size, 0, none⟩) 1 [1] rfl (srcNew _ [1] rfl (by simp)) (by simp; omega) (by have := HB1.out; simp; omega) ?_)
    intro o2 w2 hrow2 hput2
    have HRow2 := Lib.hid hrow2
    have HPut2 := Lib.hid (HPut.out.trans ((Put.of_ext ((Ext.refl w1).alloc (.cells #[.int .u8 1] 5)) o1).trans hput2))
    clear hrow2 hput2 d0 d1
    go_wp2_with fail
    go_ret
    exact ⟨_, rfl, HRow2.out, HPut2.out⟩

set_option maxRecDepth 100000 in
set_option maxHeartbeats 800000 in
theorem putP_2 (n : Int) : PutOk 58 (.mk 2 false n empty empty empty [] []) := by
  intro S base w out bs cs hrow hbase hS hv hb
  unfold Val.At at hv
  obtain ⟨A, cap, nv, rfl, hI, hl, hr, A2, cap2, rfl, hs0, hs1, hs2, hs3, hs4⟩ := hv
  have hmass := Val.enc_length (.mk 2 false n empty empty empty [] [])
  rw [Val.enc_2] at hmass ⊢
  simp only [List.length_cons, be8_length] at hmass
  have hno : out.ownBlock ≠ some w.heap.size := fun e => by have := (hrow.lt _ e).2; omega
  have hno1 : out.ownBlock ≠ some (w.heap.size + 1) := fun e => by have := (hrow.lt _ e).2; omega
  have HRow := Lib.hid hrow
  have HS := Lib.hid hS
  have HNo := Lib.hid hno
  have HR := Lib.hid hr
  have HS3 := Lib.hid hs3
  have HS4 := Lib.hid hs4
  have HI := Lib.hid hI
  obtain ⟨hl0, hl1, hl2⟩ := hl
  rw [LIM_eq] at hl0 hs0
  rw [maxLen_eq] at hl2 hs2
  clear hrow hS hno hr hs3 hs4 hI hno1
  go_enter Try.func58, Try.ntmps58
  go_wp2_with (at_builtin; refine wpList_append_bytes rfl (.tmp 7) (.tmp 11) rfl base out bs rfl (HRow.out.ext (((Ext.refl w).alloc _).alloc _)) (some ⟨w.heap.size + 1, 0, none⟩) 1 [2] rfl (srcNew _ [2] rfl (by simp)) (by simp; omega) (by simp; omega) ?_)
  intro o1 w1 hrow1 hput1
  have hput := (Put.of_ext (((Ext.refl w).alloc (.cells #[.int .i64 2, .bool false, .int .i64 n, .string empty, .string empty, .string empty, .slice A 0 cap, .slice A2 0 cap2] 27)).alloc (.cells #[.int .u8 2] 5)) out).trans hput1
  have hbx := (((BoxAt.new w 27 [.int .i64 2, .bool false, .int .i64 n, .string empty, .string empty, .string empty, .slice A 0 cap, .slice A2 0 cap2]).ext ((Ext.refl _).alloc (.cells #[.int .u8 2] 5))).put hput1 HNo.out)
  have hno1 := Put.old hput1 (g := w.heap.size) (by simp; omega) HNo.out
  have HRow1 := Lib.hid hrow1
  have HPut := Lib.hid hput
  have HBx := Lib.hid hbx
  have HNo1 := Lib.hid hno1
  have hb1 : base ≤ w1.heap.size := Nat.le_trans hbase hput.grown.size
  have HB1 := Lib.hid hb1
  clear hrow1 hput1 hput hbx hno1 hb1
  obtain ⟨d0, d1, d2, d3, d4, d5, d6, d7⟩ := HBx.out.cells
  have he : IntKind.u64.wrap n = ((bits64 n : Nat) : Int) := Try.u64_bits n
  go_wp2_with fail
  clear d0 d1 d2 d3 d4 d5 d6 d7
  refine (number8_ok (bits64 n) _).mono ?_
  rintro e w2 ⟨r2, rfl, hrow, hx⟩
  obtain ⟨Ar2, cr2, rfl, hsrc2, _, _⟩ := hrow.shape
  have HR2 := Lib.hid hrow
  have HX2 := Lib.hid hx
  have HSrc2 := Lib.hid hsrc2
  clear hrow hx hsrc2
  go_wp2_with (at_builtin; refine wpList_append_bytes rfl (.tmp 27) (.tmp 31) rfl base o1 (bs ++ [2]) rfl (HRow1.out.ext HX2.out) Ar2 cr2 (be8 (bits64 n)) rfl HSrc2.out (by simp only [List.length_append, List.length_cons, List.length_nil, be8_length]; omega) (Nat.le_trans HB1.out HX2.out.size) ?_)
  intro o2 w3 hrow2 hput2
  have HRow2 := Lib.hid hrow2
  have HPut2 := Lib.hid (HPut.out.trans ((Put.of_ext HX2.out o1).trans hput2))
  clear hrow2 hput2
  go_wp2_with fail
  go_ret
  exact ⟨_, rfl, HRow2.out, HPut2.out⟩

set_option maxRecDepth 100000 in
set_option maxHeartbeats 800000 in
theorem putP_3 (t : ByteArray) : PutOk 58 (.mk 3 false 0 t empty empty [] []) := by
  intro S base w out bs cs hrow hbase hS hv hb
  unfold Val.At at hv
  obtain ⟨A, cap, nv, rfl, hI, hl, hr, A2, cap2, rfl, hs0, hs1, hs2, hs3, hs4⟩ := hv
  have hmass := Val.enc_length (.mk 3 false 0 t empty empty [] [])
  rw [Val.enc_3] at hmass ⊢
  simp only [List.length_cons, txt_length] at hmass
  have hno : out.ownBlock ≠ some w.heap.size := fun e => by have := (hrow.lt _ e).2; omega
  have hno1 : out.ownBlock ≠ some (w.heap.size + 1) := fun e => by have := (hrow.lt _ e).2; omega
  have HRow := Lib.hid hrow
  have HS := Lib.hid hS
  have HNo := Lib.hid hno
  have HR := Lib.hid hr
  have HS3 := Lib.hid hs3
  have HS4 := Lib.hid hs4
  have HI := Lib.hid hI
  obtain ⟨hl0, hl1, hl2⟩ := hl
  rw [LIM_eq] at hl0 hs0
  rw [maxLen_eq] at hl2 hs2
  clear hrow hS hno hr hs3 hs4 hI hno1
  go_enter Try.func58, Try.ntmps58
  go_wp2_with (at_builtin; refine wpList_append_bytes rfl (.tmp 7) (.tmp 11) rfl base out bs rfl (HRow.out.ext (((Ext.refl w).alloc _).alloc _)) (some ⟨w.heap.size + 1, 0, none⟩) 1 [3] rfl (srcNew _ [3] rfl (by simp)) (by simp; omega) (by simp; omega) ?_)
  intro o1 w1 hrow1 hput1
  have hput := (Put.of_ext (((Ext.refl w).alloc (.cells #[.int .i64 3, .bool false, .int .i64 0, .string t, .string empty, .string empty, .slice A 0 cap, .slice A2 0 cap2] 27)).alloc (.cells #[.int .u8 3] 5)) out).trans hput1
  have hbx := (((BoxAt.new w 27 [.int .i64 3, .bool false, .int .i64 0, .string t, .string empty, .string empty, .slice A 0 cap, .slice A2 0 cap2]).ext ((Ext.refl _).alloc (.cells #[.int .u8 3] 5))).put hput1 HNo.out)
  have hno1 := Put.old hput1 (g := w.heap.size) (by simp; omega) HNo.out
  have HRow1 := Lib.hid hrow1
  have HPut := Lib.hid hput
  have HBx := Lib.hid hbx
  have HNo1 := Lib.hid hno1
  have hb1 : base ≤ w1.heap.size := Nat.le_trans hbase hput.grown.size
  have HB1 := Lib.hid hb1
  clear hrow1 hput1 hput hbx hno1 hb1
  obtain ⟨d0, d1, d2, d3, d4, d5, d6, d7⟩ := HBx.out.cells
  go_wp2_with fail
  clear d0 d1 d2 d3 d4 d5 d6 d7
  refine (text_okP t _ (by omega)).mono ?_
  rintro e w2 ⟨r2, rfl, hrow, hx⟩
  obtain ⟨Ar2, cr2, rfl, hsrc2, _, _⟩ := hrow.shape
  have HR2 := Lib.hid hrow
  have HX2 := Lib.hid hx
  have HSrc2 := Lib.hid hsrc2
  clear hrow hx hsrc2
  go_wp2_with (at_builtin; refine wpList_append_bytes rfl (.tmp 35) (.tmp 38) rfl base o1 (bs ++ [3]) rfl (HRow1.out.ext HX2.out) Ar2 cr2 (txt t) rfl HSrc2.out (by simp only [List.length_append, List.length_cons, List.length_nil, txt_length]; omega) (Nat.le_trans HB1.out HX2.out.size) ?_)
  intro o2 w3 hrow2 hput2
  have HRow2 := Lib.hid hrow2
  have HPut2 := Lib.hid (HPut.out.trans ((Put.of_ext HX2.out o1).trans hput2))
  clear hrow2 hput2
  go_wp2_with fail
  go_ret
  exact ⟨_, rfl, HRow2.out, HPut2.out⟩


/-- what the texts of an entity's name leave, one behind the other -/
def PutRef (base : Nat) (w1 : World) (o1 : Value) (bs : List UInt8) (ut ui : ByteArray) (vs : List Value) (w : World) : Prop := match vs with
  | [] => Ext w1 w
  | [r1] => Ext w1 w ∧ ∃ A c, r1 = .slice A (txt ut).length c ∧ SrcAt w A (txt ut).length (cellsB (txt ut))
  | [_, o2] => Put w1 w o1 o2 ∧ ByteRow base w o2 (bs ++ txt ut)
  | [_, o2, r3] => Put w1 w o1 o2 ∧ ByteRow base w o2 (bs ++ txt ut) ∧ ∃ A c, r3 = .slice A (txt ui).length c ∧ SrcAt w A (txt ui).length (cellsB (txt ui))
  | [_, _, _, o4] => Put w1 w o1 o4 ∧ ByteRow base w o4 (bs ++ txt ut ++ txt ui)
  | _ => False
theorem PutRef.put {base : Nat} {w1 w : World} {o1 : Value} {bs : List UInt8} {ut ui : ByteArray} {vs : List Value} (h : PutRef base w1 o1 bs ut ui vs w) : ∃ o', Put w1 w o1 o' := by
  unfold PutRef at h
  split at h
  · exact ⟨_, Put.of_ext h _⟩
  · exact ⟨_, Put.of_ext h.1 _⟩
  · exact ⟨_, h.1⟩
  · exact ⟨_, h.1⟩
  · exact ⟨_, h.1⟩
  · exact h.elim
theorem list1 {α : Type} {l : List α} (h : l.length = 1) : ∃ a, l = [a] := by
  match l, h with
  | [_], _ => exact ⟨_, rfl⟩
theorem list2 {α : Type} {l : List α} (h : l.length = 2) : ∃ a b, l = [a, b] := by
  match l, h with
  | [_, _], _ => exact ⟨_, _, rfl⟩
theorem list3 {α : Type} {l : List α} (h : l.length = 3) : ∃ a b c, l = [a, b, c] := by
  match l, h with
  | [_, _, _], _ => exact ⟨_, _, _, rfl⟩
theorem list4 {α : Type} {l : List α} (h : l.length = 4) : ∃ a b c d, l = [a, b, c, d] := by
  match l, h with
  | [_, _, _, _], _ => exact ⟨_, _, _, _, rfl⟩
theorem list11' {α : Type} {l : List α} (h : l.length = 11) : ∃ a0 a1 a2 a3 a4 a5 a6 a7 a8 a9 a10, l = [a0, a1, a2, a3, a4, a5, a6, a7, a8, a9, a10] := by
  match l, h with
  | [_, _, _, _, _, _, _, _, _, _, _], _ => exact ⟨_, _, _, _, _, _, _, _, _, _, _, rfl⟩
theorem Try.fieldU (O : Nat) : (∀ w, (Instr.fieldAt 27 (.pointer (some ⟨O, 0, none⟩)) 4).run Try.prog w = .ok (.pointer (some ⟨O, 4, none⟩)) w) ∧ (∀ w, (Instr.fieldAt 23 (.pointer (some ⟨O, 4, none⟩)) 0).run Try.prog w = .ok (.pointer (some ⟨O, 4, none⟩)) w) ∧
    (∀ w, (Instr.fieldAt 23 (.pointer (some ⟨O, 4, none⟩)) 1).run Try.prog w = .ok (.pointer (some ⟨O, 5, none⟩)) w) := by
  refine ⟨fun w => ?_, fun w => ?_, fun w => ?_⟩ <;> simp [Instr.fieldAt, go_sem]

set_option maxRecDepth 100000 in
set_option maxHeartbeats 800000 in
theorem putP_4 (ut ui : ByteArray) : PutOk 58 (.mk 4 false 0 empty ut ui [] []) := by
  intro S base w out bs cs hrow hbase hS hv hb
  unfold Val.At at hv
  obtain ⟨A, cap, nv, rfl, hI, hl, hr, A2, cap2, rfl, hs0, hs1, hs2, hs3, hs4⟩ := hv
  have hmass := Val.enc_length (.mk 4 false 0 empty ut ui [] [])
  rw [Val.enc_4] at hmass ⊢
  simp only [List.length_cons, List.length_append, txt_length] at hmass
  have hno : out.ownBlock ≠ some w.heap.size := fun e => by have := (hrow.lt _ e).2; omega
  have hno1 : out.ownBlock ≠ some (w.heap.size + 1) := fun e => by have := (hrow.lt _ e).2; omega
  have HRow := Lib.hid hrow
  have HS := Lib.hid hS
  have HNo := Lib.hid hno
  have HR := Lib.hid hr
  have HS3 := Lib.hid hs3
  have HS4 := Lib.hid hs4
  have HI := Lib.hid hI
  obtain ⟨hl0, hl1, hl2⟩ := hl
  rw [LIM_eq] at hl0 hs0
  rw [maxLen_eq] at hl2 hs2
  clear hrow hS hno hr hs3 hs4 hI hno1
  go_enter Try.func58, Try.ntmps58
  go_wp2_with (at_builtin; refine wpList_append_bytes rfl (.tmp 7) (.tmp 11) rfl base out bs rfl (HRow.out.ext (((Ext.refl w).alloc _).alloc _)) (some ⟨w.heap.size + 1, 0, none⟩) 1 [4] rfl (srcNew _ [4] rfl (by simp)) (by simp; omega) (by simp; omega) ?_)
  intro o1 w1 hrow1 hput1
  have hput := (Put.of_ext (((Ext.refl w).alloc (.cells #[.int .i64 4, .bool false, .int .i64 0, .string empty, .string ut, .string ui, .slice A 0 cap, .slice A2 0 cap2] 27)).alloc (.cells #[.int .u8 4] 5)) out).trans hput1
  have hbx := (((BoxAt.new w 27 [.int .i64 4, .bool false, .int .i64 0, .string empty, .string ut, .string ui, .slice A 0 cap, .slice A2 0 cap2]).ext ((Ext.refl _).alloc (.cells #[.int .u8 4] 5))).put hput1 HNo.out)
  have hno1 := Put.old hput1 (g := w.heap.size) (by simp; omega) HNo.out
  have HRow1 := Lib.hid hrow1
  have HPut := Lib.hid hput
  have HBx := Lib.hid hbx
  have HNo1 := Lib.hid hno1
  have hb1 : base ≤ w1.heap.size := Nat.le_trans hbase hput.grown.size
  have HB1 := Lib.hid hb1
  clear hrow1 hput1 hput hbx hno1 hb1
  obtain ⟨d0, d1, d2, d3, d4, d5, d6, d7⟩ := HBx.out.cells
  go_wp2_with fail
  have HD4 := Lib.hid d4
  have HD5 := Lib.hid d5
  clear d0 d1 d2 d3 d4 d5 d6 d7
  refine staged_region 11 [4, 5, 9, 10] [o1, .pointer (some ⟨w.heap.size, 4, none⟩), .pointer (some ⟨w.heap.size, 4, none⟩), .string ut, undef, undef, .pointer (some ⟨w.heap.size, 4, none⟩), .pointer (some ⟨w.heap.size, 5, none⟩), .string ui, undef, undef] (PutRef base w1 o1 (bs ++ [4]) ut ui) (by kernel_rfl) (by kernel_rfl) (by kernel_rfl) (by kernel_rfl)
    ⟨⟨rfl, rfl, rfl, Nat.le_refl _, fun _ _ => rfl⟩, Nat.le_succ _⟩ (fun i op hi hn ho vs W a hR hold hat => ?_) (fun k i op hk ho vs W a hvl hR hold hat Q' K hK => ?_) ?_
  · obtain ⟨o', hp⟩ := hR.put
    have hblk : ∀ j, W.cell? ⟨w.heap.size, j, none⟩ = w1.cell? ⟨w.heap.size, j, none⟩ := fun j => World.cell?_of_block (a := ⟨w.heap.size, j, none⟩) (hp.grown.block w.heap.size HBx.out.1 (fun e => HNo1.out e.symm))
    rcases (by simp at hn; omega : i = 0 ∨ i = 1 ∨ i = 2 ∨ i = 3 ∨ i = 6 ∨ i = 7 ∨ i = 8) with rfl | rfl | rfl | rfl | rfl | rfl | rfl <;> obtain rfl := Option.some.inj ho
    · exact exec_move rfl (hold 0 (by kernel_rfl))
    · exact exec_field _ _ _ rfl (hold 3 (by kernel_rfl)) (Try.fieldU w.heap.size).1
    · exact exec_field _ _ _ rfl (hat 1 43 (by omega) (by kernel_rfl) (by kernel_rfl)) (Try.fieldU w.heap.size).2.1
    · exact exec_load_one _ _ rfl w.heap.size 4 (hat 2 44 (by omega) (by kernel_rfl) (by kernel_rfl)) Try.agg9 ((hblk 4).trans HD4.out)
    · exact exec_field _ _ _ rfl (hold 3 (by kernel_rfl)) (Try.fieldU w.heap.size).1
    · exact exec_field _ _ _ rfl (hat 6 48 (by omega) (by kernel_rfl) (by kernel_rfl)) (Try.fieldU w.heap.size).2.2
    · exact exec_load_one _ _ rfl w.heap.size 5 (hat 7 49 (by omega) (by kernel_rfl) (by kernel_rfl)) Try.agg9 ((hblk 5).trans HD5.out)
  · have hk4 : k < 4 := by simpa using (List.getElem?_eq_some_iff.1 hk).1
    rcases (by omega : k = 0 ∨ k = 1 ∨ k = 2 ∨ k = 3) with rfl | rfl | rfl | rfl <;> obtain rfl := Option.some.inj hk <;> obtain rfl := Option.some.inj ho
    · obtain rfl := List.eq_nil_of_length_eq_zero hvl
      have hR : Ext w1 W := hR
      refine wp_enter2 (Φ := fun v w' => PutRef base w1 o1 (bs ++ [4]) ut ui [v] w') (exec_call Try.func84 rfl rfl rfl (map_one (hat 3 45 (by omega) (by kernel_rfl) (by kernel_rfl)))) ?_ hK
      refine (text_okP ut W (by omega)).mono ?_
      rintro e w' ⟨o', rfl, hrow, hx⟩
      obtain ⟨A, c, rfl, hsrc, _, _⟩ := hrow.shape
      exact ⟨_, rfl, hR.trans hx, A, c, rfl, hsrc⟩
    · obtain ⟨r1, rfl⟩ := list1 hvl
      obtain ⟨hR1, A, c, rfl, hsrc⟩ : Ext w1 W ∧ ∃ A c, r1 = .slice A (txt ut).length c ∧ SrcAt W A (txt ut).length (cellsB (txt ut)) := hR
      refine wp_append_bytes (.tmp 42) (.tmp 46) rfl base o1 (bs ++ [4]) (hat 0 42 (by omega) (by kernel_rfl) (by kernel_rfl)) (HRow1.out.ext hR1) A c (txt ut) (hat 4 46 (by omega) (by kernel_rfl) (by kernel_rfl)) hsrc (by simp only [List.length_append, List.length_cons, List.length_nil, txt_length]; omega) (Nat.le_trans HB1.out hR1.size) fun v' w' hrow' hput' => hK _ _ ⟨(Put.of_ext hR1 o1).trans hput', hrow'⟩
    · obtain ⟨r1, o2, rfl⟩ := list2 hvl
      obtain ⟨hR1, hR2⟩ : Put w1 W o1 o2 ∧ ByteRow base W o2 (bs ++ [4] ++ txt ut) := hR
      refine wp_enter2 (Φ := fun v w' => PutRef base w1 o1 (bs ++ [4]) ut ui [r1, o2, v] w') (exec_call Try.func84 rfl rfl rfl (map_one (hat 8 50 (by omega) (by kernel_rfl) (by kernel_rfl)))) ?_ hK
      refine (text_okP ui W (by omega)).mono ?_
      rintro e w' ⟨o', rfl, hrow, hx⟩
      obtain ⟨A, c, rfl, hsrc, _, _⟩ := hrow.shape
      exact ⟨_, rfl, hR1.trans (Put.of_ext hx o2), hR2.ext hx, A, c, rfl, hsrc⟩
    · obtain ⟨r1, o2, r3, rfl⟩ := list3 hvl
      obtain ⟨hR1, hR2, A, c, rfl, hsrc⟩ : Put w1 W o1 o2 ∧ ByteRow base W o2 (bs ++ [4] ++ txt ut) ∧ ∃ A c, r3 = .slice A (txt ui).length c ∧ SrcAt W A (txt ui).length (cellsB (txt ui)) := hR
      refine wp_append_bytes (.tmp 47) (.tmp 51) rfl base o2 (bs ++ [4] ++ txt ut) (hat 5 47 (by omega) (by kernel_rfl) (by kernel_rfl)) hR2 A c (txt ui) (hat 9 51 (by omega) (by kernel_rfl) (by kernel_rfl)) hsrc (by simp only [List.length_append, List.length_cons, List.length_nil, txt_length]; omega) (Nat.le_trans HB1.out hR1.grown.size) fun v' w' hrow' hput' => hK _ _ ⟨hR1.trans hput', hrow'⟩
  intro xs vs W hxl hvl hR hxs
  obtain ⟨r1, o2, r3, o4, rfl⟩ := list4 hvl
  obtain ⟨x0, x1, x2, x3, x4, x5, x6, x7, x8, x9, x10, rfl⟩ := list11' hxl
  have h10 : x10 = o4 := hxs 10 (by omega)
  obtain ⟨hR1, hR2⟩ : Put w1 W o1 o4 ∧ ByteRow base W o4 (bs ++ [4] ++ txt ut ++ txt ui) := hR
  subst h10
  clear hxs hxl hvl
  have HR1 := Lib.hid (HPut.out.trans hR1)
  have HR2 := Lib.hid hR2
  clear hR1 hR2
  simp only [List.take, List.drop, putAll]
  go_wp2_with fail
  go_ret
  exact ⟨_, rfl, by have := HR2.out; simp only [List.append_assoc] at this; exact this, HR1.out⟩

set_option maxRecDepth 100000 in
set_option maxHeartbeats 800000 in
theorem putP_5 (items : List Val) (ih : ∀ x ∈ items, PutOk 58 x) : PutOk 58 (.mk 5 false 0 empty empty empty items []) := by
  intro S base w out bs cs hrow hbase hS hv hb
  unfold Val.At at hv
  obtain ⟨A, cap, nv, rfl, hI, hl, hr, A2, cap2, rfl, hs0, hs1, hs2, hs3, hs4⟩ := hv
  have hmass := Val.enc_length (.mk 5 false 0 empty empty empty items [])
  rw [Val.enc_5] at hmass ⊢
  simp only [List.length_cons, List.length_append, be4_length] at hmass
  have hno : out.ownBlock ≠ some w.heap.size := fun e => by have := (hrow.lt _ e).2; omega
  have hno1 : out.ownBlock ≠ some (w.heap.size + 1) := fun e => by have := (hrow.lt _ e).2; omega
  have HRow := Lib.hid hrow
  have HS := Lib.hid hS
  have HNo := Lib.hid hno
  have HR := Lib.hid hr
  have HS3 := Lib.hid hs3
  have HS4 := Lib.hid hs4
  have HI := Lib.hid hI
  obtain ⟨hl0, hl1, hl2⟩ := hl
  rw [LIM_eq] at hl0 hs0
  rw [maxLen_eq] at hl2 hs2
  clear hrow hS hno hr hs3 hs4 hI hno1
  go_enter Try.func58, Try.ntmps58
  go_wp2_with (at_builtin; refine wpList_append_bytes rfl (.tmp 7) (.tmp 11) rfl base out bs rfl (HRow.out.ext (((Ext.refl w).alloc _).alloc _)) (some ⟨w.heap.size + 1, 0, none⟩) 1 [5] rfl (srcNew _ [5] rfl (by simp)) (by simp; omega) (by simp; omega) ?_)
  intro o1 w1 hrow1 hput1
  have hput := (Put.of_ext (((Ext.refl w).alloc (.cells #[.int .i64 5, .bool false, .int .i64 0, .string empty, .string empty, .string empty, .slice A items.length cap, .slice A2 0 cap2] 27)).alloc (.cells #[.int .u8 5] 5)) out).trans hput1
  have hbx := (((BoxAt.new w 27 [.int .i64 5, .bool false, .int .i64 0, .string empty, .string empty, .string empty, .slice A items.length cap, .slice A2 0 cap2]).ext ((Ext.refl _).alloc (.cells #[.int .u8 5] 5))).put hput1 HNo.out)
  have hno1 := Put.old hput1 (g := w.heap.size) (by simp; omega) HNo.out
  have HRow1 := Lib.hid hrow1
  have HPut := Lib.hid hput
  have HBx := Lib.hid hbx
  have HNo1 := Lib.hid hno1
  have hb1 : base ≤ w1.heap.size := Nat.le_trans hbase hput.grown.size
  have HB1 := Lib.hid hb1
  clear hrow1 hput1 hput hbx hno1 hb1
  obtain ⟨d0, d1, d2, d3, d4, d5, d6, d7⟩ := HBx.out.cells
  go_wp2_with fail
  refine (number4_ok items.length _).mono ?_
  rintro e w2 ⟨r2, rfl, hrow, hx⟩
  obtain ⟨Ar2, cr2, rfl, hsrc2, _, _⟩ := hrow.shape
  have HX2 := Lib.hid hx
  have HSrc2 := Lib.hid hsrc2
  clear hrow hx hsrc2 d0 d1 d2 d3 d4 d5 d6 d7
  go_wp2_with (at_builtin; refine wpList_append_bytes rfl (.tmp 53) (.tmp 58) rfl base o1 (bs ++ [5]) rfl (HRow1.out.ext HX2.out) Ar2 cr2 (be4 items.length) rfl HSrc2.out (by simp only [List.length_append, List.length_cons, List.length_nil, be4_length]; omega) (Nat.le_trans HB1.out HX2.out.size) ?_)
  intro o3 w3 hrow3 hput3
  have HRow3 := Lib.hid hrow3
  have HPut3 := Lib.hid (HPut.out.trans ((Put.of_ext HX2.out o1).trans hput3))
  have hbx3 := (BoxAt.new w 27 [.int .i64 5, .bool false, .int .i64 0, .string empty, .string empty, .string empty, .slice A items.length cap, .slice A2 0 cap2])
  have hbx3 := ((HBx.out.ext HX2.out).put hput3 (HNo1.out))
  have HBx3 := Lib.hid hbx3
  have HNo3 := Lib.hid (Put.old hput3 (g := w.heap.size) (Nat.lt_of_lt_of_le HBx.out.1 HX2.out.size) HNo1.out)
  clear hrow3 hput3 hbx3 HRow1 HSrc2 HX2 HPut HBx HNo1 HB1
  obtain ⟨d0, d1, d2, d3, d4, d5, d6, d7⟩ := HBx3.out.cells
  go_wp2_with fail
  clear d0 d1 d2 d3 d4 d5 d6 d7
  go_loopw [0, 63] (fun u0 u63 wr => ∃ k : Nat, k ≤ items.length ∧ u63 = .int .i64 k ∧ Hid (ByteRow base wr u0 (bs ++ [5] ++ be4 items.length ++ Val.encs false (items.take k) []) ∧ Put w wr out u0 ∧ BoxAt wr w.heap.size [.int .i64 5, .bool false, .int .i64 0, .string empty, .string empty, .string empty, .slice A items.length cap, .slice A2 0 cap2] ∧ u0.ownBlock ≠ some w.heap.size)) (fun _ u63 _ => items.length - (intOf u63).toNat)
  case atStart => exact ⟨0, Nat.zero_le _, rfl, by simpa [Val.encs] using HRow3.out, HPut3.out, HBx3.out, HNo3.out⟩
  case round =>
    obtain ⟨k, hk, rfl, HL⟩ := hrel
    by_cases hlt : k < items.length
    · obtain ⟨hrow, hput, hbx, hno⟩ := HL.out
      obtain ⟨x, hx⟩ : ∃ x, items[k]? = some x := ⟨_, List.getElem?_eq_getElem hlt⟩
      obtain ⟨bI, oI, rfl, hSb, hrowI⟩ := HR.out (by omega)
      obtain ⟨cx, hcl, hca, hxa⟩ := hrowI.get hx
      have hal := hput.alike HS.out
      have hap := hput.apart HS.out
      have hgl : w.heap.size < wr.heap.size := hbx.1
      have hbw : base ≤ wr.heap.size := Nat.le_trans hbase hput.grown.size
      obtain ⟨x0, x1, x2, x3, x4, x5, x6, x7, x8, x9, xa, xb, rfl⟩ := hxa.shape
      have hbound := Val.encs_bound (rc := false) (l := items) (names := []) (k := k) (x := x) (nm := empty) hx (fun e => by cases e)
      have hb2 : (bs ++ [5] ++ be4 items.length ++ Val.encs false (items.take k) []).length + 17 * x.mass ≤ 35184372088832 := by
        simp only [Val.mass] at hb
        simp only [List.length_append, List.length_cons, List.length_nil, be4_length]
        simp at hbound
        omega
      have HHc := Lib.hid (hca.alike hSb hal)
      have HXa := Lib.hid (hxa.alike hal)
      have HAp := Lib.hid hap
      have HRow := Lib.hid hrow
      have HPutw := Lib.hid hput
      have HBx4 := Lib.hid hbx
      have HNo4 := Lib.hid hno
      have Hx := Lib.hid hx
      have HBd := Lib.hid hb2
      have HBw := Lib.hid hbw
      obtain ⟨d0, d1, d2, d3, d4, d5, d6, d7⟩ := hbx.cells
      clear hrow hput hbx hno hx hca hxa hal hap hbound hb2 hbw hSb hrowI hcl
      go_wp2_with (refine wpList_load_cells rfl 27 (.tmp 66) rfl bI (oI + k * 8) rfl Try.agg27 Try.size27 rfl HHc.out ?_)
      generalize hWx : wr.alloc (.cells #[.int .i64 x0, .bool x1, .int .i64 x2, .string x3, .string x4, .string x5, .slice x6 x7 x8, .slice x9 xa xb] 27) = Wx at *
      have hxx : Ext wr Wx := by rw [← hWx]; exact (Ext.refl wr).alloc _
      have hbxx : BoxAt Wx wr.heap.size [.int .i64 x0, .bool x1, .int .i64 x2, .string x3, .string x4, .string x5, .slice x6 x7 x8, .slice x9 xa xb] := by rw [← hWx]; exact BoxAt.new wr 27 _
      have HXx := Lib.hid hxx
      have HBxx := Lib.hid hbxx
      clear hWx hxx hbxx d0 d1 d2 d3 d4 d5 d6 d7
      refine (ih x (List.mem_of_getElem? Hx.out) S base Wx _ _ [_, _, _, _, _, _, _, _] (HRow.out.ext HXx.out) (Nat.le_trans HBw.out HXx.out.size) (fun b hb => ⟨Nat.lt_of_lt_of_le (HAp.out b hb).1 HXx.out.size, (HAp.out b hb).2⟩) (HXa.out.alike (Alike.of_ext HXx.out fun b hb => (HAp.out b hb).1)) HBd.out).mono ?_
      rintro e w7 ⟨o7, rfl, hrow7, hput7⟩
      have HRow7 := Lib.hid hrow7
      have HPut7 := Lib.hid (HPutw.out.trans ((Put.of_ext HXx.out _).trans hput7))
      have HBx7 := Lib.hid ((HBx4.out.ext HXx.out).put hput7 HNo4.out)
      have HNo7 := Lib.hid (Put.old hput7 (g := w.heap.size) (Nat.lt_of_lt_of_le HBx4.out.1 HXx.out.size) HNo4.out)
      clear hrow7 hput7
      go_wp2_with fail
      go_roundw
      case rel =>
        refine ⟨k + 1, by omega, by go_num, ?_, HPut7.out, HBx7.out, HNo7.out⟩
        rw [Val.encs_snoc (nm := empty) Hx.out (fun e => by cases e)]
        have := HRow7.out
        simp only [List.append_assoc] at this
        simpa [List.append_assoc] using this
      case measure => simp [intOf]; omega
    · have hke : items.length = k := by omega
      obtain ⟨hrow, hput, _, _⟩ := HL.out
      rw [← hke, List.take_length] at hrow
      have HRow := Lib.hid hrow
      have HPutw := Lib.hid hput
      clear hrow hput HL
      have hlt' : k = items.length := by omega
      subst hlt'
      go_wp2_with fail
      go_ret
      exact ⟨_, rfl, by have := HRow.out; simpa [List.append_assoc] using this, HPutw.out⟩

set_option maxRecDepth 100000 in
set_option maxHeartbeats 800000 in
theorem putP_6 (items : List Val) (names : List ByteArray) (hlen : names.length = items.length) (ih : ∀ x ∈ items, PutOk 58 x) : PutOk 58 (.mk 6 false 0 empty empty empty items names) := by
  have HLen := Lib.hid hlen
  clear hlen
  intro S base w out bs cs hrow hbase hS hv hb
  unfold Val.At at hv
  obtain ⟨A, cap, nv, rfl, hI, hl, hr, A2, cap2, rfl, hs0, hs1, hs2, hs3, hs4⟩ := hv
  have hmass := Val.enc_length (.mk 6 false 0 empty empty empty items names)
  rw [Val.enc_6] at hmass ⊢
  simp only [List.length_cons, List.length_append, be4_length] at hmass
  have hno : out.ownBlock ≠ some w.heap.size := fun e => by have := (hrow.lt _ e).2; omega
  have hno1 : out.ownBlock ≠ some (w.heap.size + 1) := fun e => by have := (hrow.lt _ e).2; omega
  have HRow := Lib.hid hrow
  have HS := Lib.hid hS
  have HNo := Lib.hid hno
  have HR := Lib.hid hr
  have HS3 := Lib.hid hs3
  have HS4 := Lib.hid hs4
  have HI := Lib.hid hI
  obtain ⟨hl0, hl1, hl2⟩ := hl
  rw [LIM_eq] at hl0 hs0
  rw [maxLen_eq] at hl2 hs2
  clear hrow hS hno hr hs3 hs4 hI hno1
  go_enter Try.func58, Try.ntmps58
  go_wp2_with (at_builtin; refine wpList_append_bytes rfl (.tmp 7) (.tmp 11) rfl base out bs rfl (HRow.out.ext (((Ext.refl w).alloc _).alloc _)) (some ⟨w.heap.size + 1, 0, none⟩) 1 [6] rfl (srcNew _ [6] rfl (by simp)) (by simp; omega) (by simp; omega) ?_)
  intro o1 w1 hrow1 hput1
  have hput := (Put.of_ext (((Ext.refl w).alloc (.cells #[.int .i64 6, .bool false, .int .i64 0, .string empty, .string empty, .string empty, .slice A items.length cap, .slice A2 names.length cap2] 27)).alloc (.cells #[.int .u8 6] 5)) out).trans hput1
  have hbx := (((BoxAt.new w 27 [.int .i64 6, .bool false, .int .i64 0, .string empty, .string empty, .string empty, .slice A items.length cap, .slice A2 names.length cap2]).ext ((Ext.refl _).alloc (.cells #[.int .u8 6] 5))).put hput1 HNo.out)
  have hno1 := Put.old hput1 (g := w.heap.size) (by simp; omega) HNo.out
  have HRow1 := Lib.hid hrow1
  have HPut := Lib.hid hput
  have HBx := Lib.hid hbx
  have HNo1 := Lib.hid hno1
  have hb1 : base ≤ w1.heap.size := Nat.le_trans hbase hput.grown.size
  have HB1 := Lib.hid hb1
  clear hrow1 hput1 hput hbx hno1 hb1
  obtain ⟨d0, d1, d2, d3, d4, d5, d6, d7⟩ := HBx.out.cells
  go_wp2_with fail
  refine (number4_ok items.length _).mono ?_
  rintro e w2 ⟨r2, rfl, hrow, hx⟩
  obtain ⟨Ar2, cr2, rfl, hsrc2, _, _⟩ := hrow.shape
  have HX2 := Lib.hid hx
  have HSrc2 := Lib.hid hsrc2
  clear hrow hx hsrc2 d0 d1 d2 d3 d4 d5 d6 d7
  go_wp2_with (at_builtin; refine wpList_append_bytes rfl (.tmp 53) (.tmp 58) rfl base o1 (bs ++ [6]) rfl (HRow1.out.ext HX2.out) Ar2 cr2 (be4 items.length) rfl HSrc2.out (by simp only [List.length_append, List.length_cons, List.length_nil, be4_length]; omega) (Nat.le_trans HB1.out HX2.out.size) ?_)
  intro o3 w3 hrow3 hput3
  have HRow3 := Lib.hid hrow3
  have HPut3 := Lib.hid (HPut.out.trans ((Put.of_ext HX2.out o1).trans hput3))
  have hbx3 := (BoxAt.new w 27 [.int .i64 6, .bool false, .int .i64 0, .string empty, .string empty, .string empty, .slice A items.length cap, .slice A2 names.length cap2])
  have hbx3 := ((HBx.out.ext HX2.out).put hput3 (HNo1.out))
  have HBx3 := Lib.hid hbx3
  have HNo3 := Lib.hid (Put.old hput3 (g := w.heap.size) (Nat.lt_of_lt_of_le HBx.out.1 HX2.out.size) HNo1.out)
  clear hrow3 hput3 hbx3 HRow1 HSrc2 HX2 HPut HBx HNo1 HB1
  obtain ⟨d0, d1, d2, d3, d4, d5, d6, d7⟩ := HBx3.out.cells
  go_wp2_with fail
  clear d0 d1 d2 d3 d4 d5 d6 d7
  go_loopw [0, 63] (fun u0 u63 wr => ∃ k : Nat, k ≤ items.length ∧ u63 = .int .i64 k ∧ Hid (ByteRow base wr u0 (bs ++ [6] ++ be4 items.length ++ Val.encs true (items.take k) names) ∧ Put w wr out u0 ∧ BoxAt wr w.heap.size [.int .i64 6, .bool false, .int .i64 0, .string empty, .string empty, .string empty, .slice A items.length cap, .slice A2 names.length cap2] ∧ u0.ownBlock ≠ some w.heap.size)) (fun _ u63 _ => items.length - (intOf u63).toNat)
  case atStart => exact ⟨0, Nat.zero_le _, rfl, by simpa [Val.encs] using HRow3.out, HPut3.out, HBx3.out, HNo3.out⟩
  case round =>
    obtain ⟨k, hk, rfl, HL⟩ := hrel
    by_cases hlt : k < items.length
    · obtain ⟨hrow, hput, hbx, hno⟩ := HL.out
      obtain ⟨x, hx⟩ : ∃ x, items[k]? = some x := ⟨_, List.getElem?_eq_getElem hlt⟩
      obtain ⟨bI, oI, rfl, hSb, hrowI⟩ := HR.out (by omega)
      obtain ⟨cx, hcl, hca, hxa⟩ := hrowI.get hx
      have hal := hput.alike HS.out
      have hap := hput.apart HS.out
      obtain ⟨nmk, hnm⟩ : ∃ s, names[k]? = some s := ⟨_, List.getElem?_eq_getElem (by have := HLen.out; omega)⟩
      obtain ⟨bN, oN, rfl, hSN, hcN⟩ := HS4.out (by have := HLen.out; omega)
      have hcN' := hcN.alike hSN hal
      have f0 : wr.cell? ⟨bN, oN + k, none⟩ = some (.string nmk) := hcN' k _ (by rw [List.getElem?_map, hnm]; rfl)
      have hbN : bN < wr.heap.size := (hap bN hSN).1
      have q5 : k < names.length := by have := HLen.out; omega
      have HNm := Lib.hid hnm
      clear hcN hcN' hSN hnm
      have hgl : w.heap.size < wr.heap.size := hbx.1
      have hbw : base ≤ wr.heap.size := Nat.le_trans hbase hput.grown.size
      obtain ⟨x0, x1, x2, x3, x4, x5, x6, x7, x8, x9, xa, xb, rfl⟩ := hxa.shape
      have hbound := Val.encs_bound (rc := true) (l := items) (names := names) (k := k) (x := x) (nm := nmk) hx (fun _ => HNm.out)
      have hb2 : (bs ++ [6] ++ be4 items.length ++ Val.encs true (items.take k) names).length + (txt nmk).length + 17 * x.mass ≤ 35184372088832 := by
        simp only [Val.mass] at hb
        simp only [List.length_append, List.length_cons, List.length_nil, be4_length]
        simp at hbound
        omega
      have HHc := Lib.hid (hca.alike hSb hal)
      have HXa := Lib.hid (hxa.alike hal)
      have HAp := Lib.hid hap
      have HRow := Lib.hid hrow
      have HPutw := Lib.hid hput
      have HBx4 := Lib.hid hbx
      have HNo4 := Lib.hid hno
      have Hx := Lib.hid hx
      have HBd := Lib.hid hb2
      have HBw := Lib.hid hbw
      obtain ⟨d0, d1, d2, d3, d4, d5, d6, d7⟩ := hbx.cells
      clear hrow hput hbx hno hx hca hxa hal hap hbound hb2 hbw hSb hrowI hcl
      go_wp2_with (refine wpList_load_cells rfl 27 (.tmp 66) rfl bI (oI + k * 8) rfl Try.agg27 Try.size27 rfl HHc.out ?_)
      generalize hWx : wr.alloc (.cells #[.int .i64 x0, .bool x1, .int .i64 x2, .string x3, .string x4, .string x5, .slice x6 x7 x8, .slice x9 xa xb] 27) = Wx at *
      have hxx : Ext wr Wx := by rw [← hWx]; exact (Ext.refl wr).alloc _
      have hbxx : BoxAt Wx wr.heap.size [.int .i64 x0, .bool x1, .int .i64 x2, .string x3, .string x4, .string x5, .slice x6 x7 x8, .slice x9 xa xb] := by rw [← hWx]; exact BoxAt.new wr 27 _
      have HXx := Lib.hid hxx
      have HBxx := Lib.hid hbxx
      clear hWx hxx hbxx d0 d1 d2 d3 d4 d5 d6 d7
      refine (text_okP nmk _ (by have := HBd.out; rw [txt_length] at this; omega)).mono ?_
      rintro e w5 ⟨r5, rfl, hrow, hx⟩
      obtain ⟨Ar5, cr5, rfl, hsrc5, _, _⟩ := hrow.shape
      have HX5 := Lib.hid (HXx.out.trans hx)
      have HSrc5 := Lib.hid hsrc5
      have HBx5 := Lib.hid (HBxx.out.ext hx)
      clear hrow hx hsrc5 f0
      go_wp2_with (at_builtin; refine wpList_append_bytes rfl (.tmp 71) (.tmp 77) rfl base _ (bs ++ [6] ++ be4 items.length ++ Val.encs true (items.take k) names) rfl (HRow.out.ext HX5.out) Ar5 cr5 (txt nmk) rfl HSrc5.out (by have := HBd.out; omega) (Nat.le_trans HBw.out HX5.out.size) ?_)
      intro o6 w6 hrow6 hput6
      have HRow6 := Lib.hid hrow6
      have hp6 := (Put.of_ext HX5.out _).trans hput6
      have HPut6 := Lib.hid (HPutw.out.trans hp6)
      have HBx6 := Lib.hid ((HBx4.out.ext HX5.out).put hput6 HNo4.out)
      have HNo6 := Lib.hid (Put.old hp6 (g := w.heap.size) HBx4.out.1 HNo4.out)
      have HBy6 := Lib.hid (HBx5.out.put hput6 (fun e => by have := (HRow.out.lt _ e).2; omega))
      have HAp6 := Lib.hid (hp6.apart HAp.out)
      have HXa6 := Lib.hid (HXa.out.alike (hp6.alike HAp.out))
      have HBw6 := Lib.hid (Nat.le_trans HBw.out hp6.grown.size)
      clear hrow6 hput6 hp6
      go_wp2_with (refine wpList_load_cells rfl 27 (.tmp 6) rfl wr.heap.size 0 rfl Try.agg27 Try.size27 rfl HBy6.out.2 ?_)
      refine (ih x (List.mem_of_getElem? Hx.out) S base w6 _ _ [_, _, _, _, _, _, _, _] HRow6.out HBw6.out HAp6.out HXa6.out (by have := HBd.out; simp only [List.length_append, List.length_cons, List.length_nil] at this ⊢; omega)).mono ?_
      rintro e w7 ⟨o7, rfl, hrow7, hput7⟩
      have HRow7 := Lib.hid hrow7
      have HPut7 := Lib.hid (HPut6.out.trans hput7)
      have HBx7 := Lib.hid (HBx6.out.put hput7 HNo6.out)
      have HNo7 := Lib.hid (Put.old hput7 (g := w.heap.size) HBx6.out.1 HNo6.out)
      clear hrow7 hput7
      go_wp2_with fail
      go_roundw
      case rel =>
        refine ⟨k + 1, by omega, by go_num, ?_, HPut7.out, HBx7.out, HNo7.out⟩
        rw [Val.encs_snoc Hx.out (fun _ => HNm.out)]
        have := HRow7.out
        simpa [List.append_assoc] using this
      case measure => simp [intOf]; omega
    · have hke : items.length = k := by omega
      obtain ⟨hrow, hput, _, _⟩ := HL.out
      rw [← hke, List.take_length] at hrow
      have HRow := Lib.hid hrow
      have HPutw := Lib.hid hput
      clear hrow hput HL
      have hlt' : k = items.length := by omega
      subst hlt'
      go_wp2_with fail
      go_ret
      exact ⟨_, rfl, by have := HRow.out; simpa [List.append_assoc] using this, HPutw.out⟩

theorem putP_ok : ∀ (n : Nat) (v : Val), SizeOf.sizeOf v ≤ n → v.Is → PutOk 58 v
  | 0, v, h, _ => by cases v; simp at h
  | n + 1, .mk k bo i t ut ui items names, h, hi => by
    have hs : ∀ x ∈ items, SizeOf.sizeOf x ≤ n := fun x hx => by
      have := List.sizeOf_lt_of_mem hx
      simp at h; omega
    unfold Val.Is at hi
    rcases hi with ⟨rfl, rfl, rfl, rfl, rfl, rfl, rfl⟩ | ⟨rfl, rfl, rfl, rfl, rfl, rfl, rfl⟩ | ⟨rfl, rfl, rfl, rfl, rfl, rfl, rfl⟩ | ⟨rfl, rfl, rfl, rfl, rfl, rfl⟩ | ⟨rfl, rfl, rfl, rfl, rfl, rfl, rfl, _, _, ha⟩ | ⟨rfl, rfl, rfl, rfl, rfl, rfl, hl, _, _, ha⟩
    · exact putP_1 bo
    · exact putP_2 i
    · exact putP_3 t
    · exact putP_4 ut ui
    · exact putP_5 items fun x hx => putP_ok n x (hs x hx) ((Val.are_iff items).1 ha x hx)
    · exact putP_6 items names hl fun x hx => putP_ok n x (hs x hx) ((Val.are_iff items).1 ha x hx)

end Go.Proofs.Ytpkgkabcikmopaa
