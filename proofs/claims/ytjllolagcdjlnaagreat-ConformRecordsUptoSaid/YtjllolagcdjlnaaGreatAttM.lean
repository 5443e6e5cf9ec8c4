/-
  Searches by name: in a row of names, of attributes. The conditions: the rows lie in memory as they should.
-/
import Derived.Test.YtjllolagcdjlnaaGreatFunRM
import Derived.Test.YtjllolagcdjlnaaGreatTyRM
import Derived.Test.YtjllolagcdjlnaaGreatGe
import Derived.Test.YtjllolagcdjlnaaGreatGc
namespace Go.Proofs.YtjllolagcdjlnaaGreat
open Go.RowKit

theorem fidx_pos {α : Type} {p : α → Bool} {l : List α} : decide (0 ≤ pos (fidx p l)) = l.any p := by
  rw [← fidx_isSome]
  cases fidx p l with
  | none => rfl
  | some i => simp [pos]

set_option maxRecDepth 100000 in
set_option maxHeartbeats 400000 in
theorem containsS_ok (S : Nat → Prop) (l : List ByteArray) (v : Value) (s : ByteArray) (w : World) (hl : strR.RowsAt S w l v) :
    Calls Tryz.prog 94 #[v, .string s] w fun e w' => e = .returned (.bool (l.any fun x => s.toList == x.toList)) ∧ w = w' := by
  have hi := indexStrs_ok S l v s w (rows_strsAt hl)
  obtain ⟨A, cap, rfl, _⟩ := hl
  rw [← fidx_isSome]
  cases hf : fidx (fun x : ByteArray => s.toList == x.toList) l with
  | none =>
    rw [hf] at hi
    have HI := Lib.hid hi
    clear hi hf
    go_enter Tryz.func94, Tryz.ntmps94
    go_wp2_with (go_at_call 123; refine HI.out.mono ?_; rintro e w' ⟨rfl, rfl⟩)
    go_ret
    exact ⟨rfl, rfl⟩
  | some i =>
    rw [hf] at hi
    have HI := Lib.hid hi
    clear hi hf
    go_enter Tryz.func94, Tryz.ntmps94
    go_wp2_with (go_at_call 123; refine HI.out.mono ?_; rintro e w' ⟨rfl, rfl⟩)
    go_ret
    exact ⟨ret_bool (by simp [pos]), rfl⟩

theorem Tryz.enterTA : ∀ args w, (callFunc 157 args).run Tryz.prog w = .ok (.enter 157 args) w := fun _ _ => by kernel_rfl

set_option maxRecDepth 100000 in
set_option maxHeartbeats 400000 in
theorem attr1_ok (a : Atr) (nm : ByteArray) (S : Nat → Prop) (w : World) (cs : List Value) (g : Nat) (h : Atr.At S w a cs) (hg : OneBox w g (.string nm) 9) :
    Calls Tryz.prog 157 (#[.agg cs.toArray] ++ #[.pointer (some ⟨g, 0, none⟩)]) w fun e w' => e = .returned (.bool (a.name.toList == nm.toList)) ∧ Ext w w' := by
  obtain ⟨A, la, ca, B, lb, cb, rfl, _⟩ := h.shape
  have c0 := (hg.block (Below.heap_alloc w (.cells #[.string a.name, .int .i64 a.ty.kind, .string a.ty.name, .slice A la ca, .slice B lb cb, .bool a.opt] 83) g (Blk_lt hg))).cell
  clear hg h
  show Calls Tryz.prog 157 #[.agg #[.string a.name, .int .i64 a.ty.kind, .string a.ty.name, .slice A la ca, .slice B lb cb, .bool a.opt], .pointer (some ⟨g, 0, none⟩)] w _
  go_enter Tryz.func157, Tryz.ntmps157
  go_wp2_with fail
  go_ret
  exact ⟨rfl, (Ext.refl w).alloc _⟩

theorem heapT2 (w : World) (o0 o1 : Obj) : ((w.alloc o0).alloc o1).heap[w.heap.size]? = some o0 ∧ ((w.alloc o0).alloc o1).heap[w.heap.size + 1]? = some o1 ∧ ((w.alloc o0).alloc o1).heap.size = w.heap.size + 2 ∧ Ext w ((w.alloc o0).alloc o1) := by
  refine ⟨?_, ?_, by simp, ((Ext.refl w).alloc _).alloc _⟩ <;> (simp only [World.alloc, Array.getElem?_push, Array.size_push]; (repeat rw [if_neg (by omega)]); simp)

/-- no attribute -/
def zeroAtr : List Value := [.string ByteArray.empty, .int .i64 0, .string ByteArray.empty, .slice none 0 0, .slice none 0 0, .bool false]
theorem zeroAtr_one : ∀ v ∈ zeroAtr, v.oneCell' = true := by decide
/-- the first attribute of a name -/
abbrev atrIdx (l : List Atr) (nm : ByteArray) : Option Nat := fidx (fun a : Atr => a.name.toList == nm.toList) l
/-- the first attribute of a name, told in two parts -/
def AtrAns (S : Nat → Prop) (l : List Atr) (nm : ByteArray) (w : World) (e : Ending) (w' : World) : Prop := ∃ cs : List Value, e = .returned (.tuple #[.agg cs.toArray, .bool (atrIdx l nm).isSome]) ∧
  ((atrIdx l nm = none ∧ cs = zeroAtr) ∨ ∃ i a, atrIdx l nm = some i ∧ l[i]? = some a ∧ Atr.At S w' a cs) ∧ Ext w w'

set_option maxRecDepth 100000 in
set_option maxHeartbeats 800000 in
theorem attr_ok (S : Nat → Prop) (l : List Atr) (v : Value) (nm : ByteArray) (w : World) (hS : ∀ b, S b → b < w.heap.size) (hl : atrR.RowsAt S w l v) :
    Calls Tryz.prog 113 #[v, .string nm] w (AtrAns S l nm w) := by
  have HL := Lib.hid hl
  obtain ⟨A, cap, rfl, ⟨hl0, hl1, hl2⟩, hlr⟩ := hl
  rw [LIM_eq] at hl0
  rw [maxLen_eq] at hl2
  have HR := Lib.hid hlr
  have HS := Lib.hid hS
  have HD : Hid (∀ e w', AtrAns S l nm w e w' ↔ ∃ cs : List Value, e = .returned (.tuple #[.agg cs.toArray, .bool (atrIdx l nm).isSome]) ∧ ((atrIdx l nm = none ∧ cs = zeroAtr) ∨ ∃ i a, atrIdx l nm = some i ∧ l[i]? = some a ∧ Atr.At S w' a cs) ∧ Ext w w') := Lib.hid fun _ _ => Iff.rfl
  clear hlr hS
  go_enter Tryz.func113, Tryz.ntmps113
  go_wp2_with fail
  obtain ⟨hb0, hb1, hsz, hx⟩ := heapT2 w (.cells #[.string nm] 9) (.cells zeroAtr.toArray 83)
  rw [show (#[Value.string ⟨#[]⟩, .int .i64 0, .string ⟨#[]⟩, .slice none 0 0, .slice none 0 0, .bool false] : Array Value) = zeroAtr.toArray from rfl]
  generalize (w.alloc (.cells #[.string nm] 9)).alloc (.cells zeroAtr.toArray 83) = W at hb0 hb1 hsz hx ⊢
  have HX := Lib.hid hx
  have HLW := Lib.hid (HL.out.alike (Alike.of_ext hx HS.out))
  have HB1 := Lib.hid hb1
  have hsW : ∀ b, S b → b < W.heap.size := fun b hb => Nat.lt_of_lt_of_le (HS.out b hb) hx.size
  have hK := indexFuncRA atrR rfl 157 #[.pointer (some ⟨w.heap.size, 0, none⟩)] (fun a : Atr => a.name.toList == nm.toList) S l _ W Tryz.enterTA hsW HLW.out (fun a _ cs w1 hw1 ha => attr1_ok a nm S w1 cs w.heap.size ha ((hw1.block _ (Blk_lt hb0)).trans hb0))
  have HK := Lib.hid hK
  clear hb0 hb1 hsz hx hK
  refine HK.out.mono ?_
  rintro e w2 ⟨rfl, hx2⟩
  have HX2 := Lib.hid (HX.out.trans hx2)
  have HB2 := Lib.hid ((hx2.block _ (Blk_lt HB1.out)).trans HB1.out)
  have HL2 := Lib.hid (HLW.out.alike (Alike.of_ext hx2 hsW))
  clear hx2 hsW HK HLW HX HB1 HL
  obtain ⟨ix, hix⟩ : ∃ ix, atrIdx l nm = ix := ⟨_, rfl⟩
  unfold atrIdx at hix
  rw [hix]
  have HI := Lib.hid hix
  clear hix
  cases ix with
  | none =>
    simp only [pos]
    go_wp2_with (refine wpList_store_cells rfl 83 _ _ rfl (w.heap.size + 1) 0 rfl zeroAtr rfl Tryz.sizeRA rfl 83 zeroAtr.toArray HB2.out (by simp [zeroAtr]) zeroAtr_one ?_)
    refine bodyPost_ret (v := .tuple #[.agg zeroAtr.toArray, .bool false]) (results_cell Tryz.results113 rfl Tryz.aggRA Tryz.sizeRA rfl (cellsAt_setRow HB2.out (by simp [zeroAtr]))) rfl ((HD.out _ _).2 ⟨zeroAtr, ?_, .inl ⟨HI.out, rfl⟩, HX2.out.setRow (by omega) _⟩)
    rw [show atrIdx l nm = none from HI.out]; rfl
  | some i =>
    obtain ⟨a, hia, hp⟩ := fidx_lt HI.out
    have hil := (List.getElem?_eq_some_iff.1 hia).1
    obtain ⟨A', cap', e, _, hrow⟩ := HL2.out
    obtain ⟨b, o, rfl, hSb, hrow⟩ := hrow (by omega)
    injection e with e1 e2 e3
    subst e1
    obtain ⟨cs, hca, hat⟩ := hrow i a hia
    have hca : CellsAt w2 b (o + i * 6) cs := hca
    obtain ⟨Aa, la, ca, Ba, lb, cb, rfl, _⟩ := Atr.At.shape hat
    have Hca := Lib.hid hca
    have Hat := Lib.hid hat
    have Hia := Lib.hid hia
    clear hca hat hia hrow hSb hp e2 e3 HL2
    simp only [pos]
    go_wp2_with (first | refine wpList_load_cells rfl 83 _ rfl b (o + i * 6) rfl Tryz.aggRA Tryz.sizeRA rfl Hca.out ?_ | refine wpList_store_cells rfl 83 _ _ rfl (w.heap.size + 1) 0 rfl [.string a.name, .int .i64 a.ty.kind, .string a.ty.name, .slice Aa la ca, .slice Ba lb cb, .bool a.opt] rfl Tryz.sizeRA rfl 83 zeroAtr.toArray HB2.out (by simp [zeroAtr]) (Atr.At.one Hat.out) ?_)
    refine bodyPost_ret (v := .tuple #[.agg [.string a.name, .int .i64 a.ty.kind, .string a.ty.name, .slice Aa la ca, .slice Ba lb cb, .bool a.opt].toArray, .bool true]) (results_cell Tryz.results113 rfl Tryz.aggRA Tryz.sizeRA rfl (cellsAt_setRow HB2.out (by simp [zeroAtr]))) rfl ((HD.out _ _).2 ⟨[.string a.name, .int .i64 a.ty.kind, .string a.ty.name, .slice Aa la ca, .slice Ba lb cb, .bool a.opt], ?_, .inr ⟨i, a, HI.out, Hia.out, ?_⟩, HX2.out.setRow (by omega) _⟩)
    · rw [show atrIdx l nm = some i from HI.out]; rfl
    · exact Atr.At.alike (fun b' hb => (GrownBy.setRow w2 (w.heap.size + 1) _).block b' (Nat.lt_of_lt_of_le (HS.out b' hb) HX2.out.size) (fun e => by injection e with e; have := HS.out b' hb; omega)) _ _ Hat.out
end Go.Proofs.YtjllolagcdjlnaaGreat
