/-
  The program's searches in a schema: a type, an action by its name. The conditions: the schema lies in memory as it should.
-/
import Derived.Test.YtjllolagcdjlnaaGreatAttM
namespace Go.Proofs.YtjllolagcdjlnaaGreat
open Go.RowKit

theorem heapT3 (w : World) (o0 o1 o2 : Obj) : (((w.alloc o0).alloc o1).alloc o2).heap[w.heap.size]? = some o0 ∧ (((w.alloc o0).alloc o1).alloc o2).heap[w.heap.size + 1]? = some o1 ∧ (((w.alloc o0).alloc o1).alloc o2).heap[w.heap.size + 2]? = some o2 ∧ (((w.alloc o0).alloc o1).alloc o2).heap.size = w.heap.size + 3 ∧ Ext w (((w.alloc o0).alloc o1).alloc o2) := by
  refine ⟨?_, ?_, ?_, by simp, (((Ext.refl w).alloc _).alloc _).alloc _⟩ <;> (simp only [World.alloc, Array.getElem?_push, Array.size_push]; (repeat rw [if_neg (by omega)]); simp)

theorem Tryz.enterType1 : ∀ args w, (callFunc 122 args).run Tryz.prog w = .ok (.enter 122 args) w := fun _ _ => by kernel_rfl
theorem sty_shape {S : Nat → Prop} {w : World} {x : EntT} {cs : List Value} (h : entTR.At S w x cs) : ∃ Aa la ca Ba lb cb, cs = [.string x.name, .slice Aa la ca, .slice Ba lb cb] := by
  obtain ⟨v1, v2, rfl, _, ⟨A1, c1, rfl, _⟩, ⟨A2, c2, rfl, _⟩⟩ := h
  exact ⟨_, _, _, _, _, _, rfl⟩

set_option maxRecDepth 100000 in
set_option maxHeartbeats 400000 in
theorem sty1_ok (x : EntT) (nm : ByteArray) (S : Nat → Prop) (w : World) (cs : List Value) (g : Nat) (h : entTR.At S w x cs) (hg : OneBox w g (.string nm) 9) :
    Calls Tryz.prog 122 (#[.agg cs.toArray] ++ #[.pointer (some ⟨g, 0, none⟩)]) w fun e w' => e = .returned (.bool (x.name.toList == nm.toList)) ∧ Ext w w' := by
  obtain ⟨Aa, la, ca, Ba, lb, cb, rfl⟩ := sty_shape h
  have c0 := (hg.block (Below.heap_alloc w (.cells #[.string x.name, .slice Aa la ca, .slice Ba lb cb] 112) g (Blk_lt hg))).cell
  clear hg h
  show Calls Tryz.prog 122 #[.agg #[.string x.name, .slice Aa la ca, .slice Ba lb cb], .pointer (some ⟨g, 0, none⟩)] w _
  go_enter Tryz.func122, Tryz.ntmps122
  go_wp2_with fail
  go_ret
  exact ⟨rfl, (Ext.refl w).alloc _⟩

def zeroEntT : List Value := [.string ByteArray.empty, .slice none 0 0, .slice none 0 0]
theorem zeroEntT_one : ∀ v ∈ zeroEntT, v.oneCell' = true := by decide
/-- the first of a name -/
abbrev styIdx (l : List EntT) (nm : ByteArray) : Option Nat := fidx (fun a : EntT => a.name.toList == nm.toList) l
/-- the first of a name, told in two parts -/
def EntTAns (S : Nat → Prop) (l : List EntT) (nm : ByteArray) (w : World) (e : Ending) (w' : World) : Prop := ∃ cs : List Value, e = .returned (.tuple #[.agg cs.toArray, .bool (styIdx l nm).isSome]) ∧
  ((styIdx l nm = none ∧ cs = zeroEntT) ∨ ∃ i a, styIdx l nm = some i ∧ l[i]? = some a ∧ entTR.At S w' a cs) ∧ Ext w w'

set_option maxRecDepth 100000 in
set_option maxHeartbeats 800000 in
theorem sty_ok (S : Nat → Prop) (s : Sch) (ss : List Value) (nm : ByteArray) (w : World) (hS : ∀ b, S b → b < w.heap.size) (hs : Sch.At S w s ss) :
    Calls Tryz.prog 92 #[.agg ss.toArray, .string nm] w (EntTAns S s.types nm w) := by
  obtain ⟨v1, v2, rfl, h1, h2⟩ := hs
  obtain ⟨A1, cap1, rfl, ⟨_, _, hl2⟩, _⟩ := id h1
  obtain ⟨A2, cap2, rfl, ⟨_, _, hm2⟩, _⟩ := id h2
  rw [maxLen_eq] at hl2 hm2
  have HL := Lib.hid h1
  have HS := Lib.hid hS
  obtain ⟨l, hl⟩ : ∃ l, l = s.types := ⟨_, rfl⟩
  rw [← hl] at HL ⊢
  have hlen : l.length ≤ 1073741824 := by obtain ⟨_, _, _, ⟨h, _⟩, _⟩ := HL.out; rw [LIM_eq] at h; exact h
  have hlc := HL.out
  obtain ⟨_, _, e, ⟨_, hl1, _⟩, _⟩ := hlc
  injection e with e1 e2 e3
  subst e3
  rw [← hl] at *
  have HD : Hid (∀ e w', EntTAns S l nm w e w' ↔ ∃ cs : List Value, e = .returned (.tuple #[.agg cs.toArray, .bool (styIdx l nm).isSome]) ∧ ((styIdx l nm = none ∧ cs = zeroEntT) ∨ ∃ i a, styIdx l nm = some i ∧ l[i]? = some a ∧ entTR.At S w' a cs) ∧ Ext w w') := Lib.hid fun _ _ => Iff.rfl
  clear h1 h2 hS hl e1 e2
  obtain ⟨n2, hn2⟩ : ∃ n2, n2 = s.acts.length := ⟨_, rfl⟩
  rw [← hn2] at *
  clear hn2
  go_enter Tryz.func92, Tryz.ntmps92
  go_wp2_with fail
  obtain ⟨hb0, hb1, hb2, hsz, hx⟩ := heapT3 w (.cells #[Value.slice A1 l.length cap1, .slice A2 n2 cap2] 70) (.cells #[.string nm] 9) (.cells zeroEntT.toArray 112)
  rw [show (#[Value.string ⟨#[]⟩, .slice none 0 0, .slice none 0 0] : Array Value) = zeroEntT.toArray from rfl]
  generalize ((w.alloc (.cells #[Value.slice A1 l.length cap1, .slice A2 n2 cap2] 70)).alloc (.cells #[.string nm] 9)).alloc (.cells zeroEntT.toArray 112) = W at hb0 hb1 hb2 hsz hx ⊢
  have HX := Lib.hid hx
  have HLW := Lib.hid (HL.out.alike (Alike.of_ext hx HS.out))
  have HB0 := Lib.hid hb0
  have HB2 := Lib.hid hb2
  have hsW : ∀ b, S b → b < W.heap.size := fun b hb => Nat.lt_of_lt_of_le (HS.out b hb) hx.size
  have hK := indexFuncRT entTR rfl 122 #[.pointer (some ⟨w.heap.size + 1, 0, none⟩)] (fun a : EntT => a.name.toList == nm.toList) S l _ W Tryz.enterType1 hsW HLW.out (fun a _ cs w1 hw1 ha => sty1_ok a nm S w1 cs (w.heap.size + 1) ha ((hw1.block _ (Blk_lt hb1)).trans hb1))
  have HK := Lib.hid hK
  clear hb0 hb1 hb2 hsz hx hK
  refine HK.out.mono ?_
  rintro e w2 ⟨rfl, hx2⟩
  have HX2 := Lib.hid (HX.out.trans hx2)
  have HB2' := Lib.hid ((hx2.block _ (Blk_lt HB2.out)).trans HB2.out)
  have g0 : w2.cell? ⟨w.heap.size, 0, none⟩ = some (.slice A1 l.length cap1) := cell_of_row _ _ 0 _ _ _ ((hx2.block _ (Blk_lt HB0.out)).trans HB0.out)
  have HL2 := Lib.hid (HLW.out.alike (Alike.of_ext hx2 hsW))
  clear hx2 hsW HK HLW HX HB2 HB0 HL
  obtain ⟨ix, hix⟩ : ∃ ix, styIdx l nm = ix := ⟨_, rfl⟩
  unfold styIdx at hix
  rw [hix]
  have HI := Lib.hid hix
  clear hix
  cases ix with
  | none =>
    simp only [pos]
    go_wp2_with (refine wpList_store_cells rfl 112 _ _ rfl (w.heap.size + 1 + 1) 0 rfl zeroEntT rfl Tryz.sizeRT rfl 112 zeroEntT.toArray HB2'.out (by simp [zeroEntT]) zeroEntT_one ?_)
    refine bodyPost_ret (v := .tuple #[.agg zeroEntT.toArray, .bool false]) (results_cell Tryz.results92 rfl Tryz.aggRT Tryz.sizeRT rfl (cellsAt_setRow HB2'.out (by simp [zeroEntT]))) rfl ((HD.out _ _).2 ⟨zeroEntT, ?_, .inl ⟨HI.out, rfl⟩, HX2.out.setRow (by omega) _⟩)
    rw [show styIdx l nm = none from HI.out]; rfl
  | some i =>
    obtain ⟨a, hia, hp⟩ := fidx_lt HI.out
    have hil := (List.getElem?_eq_some_iff.1 hia).1
    obtain ⟨A', cap', e, _, hrow⟩ := HL2.out
    obtain ⟨b, o, rfl, hSb, hrow⟩ := hrow (by omega)
    injection e with e1 e2 e3
    subst e1
    obtain ⟨cs, hca, hat⟩ := hrow i a hia
    have hca : CellsAt w2 b (o + i * 3) cs := hca
    obtain ⟨Aa, la, ca, Ba, lb, cb, rfl⟩ := sty_shape hat
    have Hca := Lib.hid hca
    have Hat := Lib.hid hat
    have Hia := Lib.hid hia
    clear hca hat hia hrow hSb hp e2 e3 HL2
    simp only [pos]
    go_wp2_with (first | refine wpList_load_cells rfl 112 _ rfl b (o + i * 3) rfl Tryz.aggRT Tryz.sizeRT rfl Hca.out ?_ | refine wpList_store_cells rfl 112 _ _ rfl (w.heap.size + 1 + 1) 0 rfl [.string a.name, .slice Aa la ca, .slice Ba lb cb] rfl Tryz.sizeRT rfl 112 zeroEntT.toArray HB2'.out (by simp [zeroEntT]) (entTR.one Hat.out) ?_)
    refine bodyPost_ret (v := .tuple #[.agg (show List Value from [.string a.name, .slice Aa la ca, .slice Ba lb cb]).toArray, .bool true]) (results_cell Tryz.results92 rfl Tryz.aggRT Tryz.sizeRT rfl (cellsAt_setRow HB2'.out (by simp [zeroEntT]))) rfl ((HD.out _ _).2 ⟨[.string a.name, .slice Aa la ca, .slice Ba lb cb], ?_, .inr ⟨i, a, HI.out, Hia.out, ?_⟩, HX2.out.setRow (by omega) _⟩)
    · rw [show styIdx l nm = some i from HI.out]; rfl
    · exact entTR.alike Hat.out (fun b' hb => (GrownBy.setRow w2 (w.heap.size + 1 + 1) _).block b' (Nat.lt_of_lt_of_le (HS.out b' hb) HX2.out.size) (fun e => by injection e with e; have := HS.out b' hb; omega))

theorem Tryz.enterAction1 : ∀ args w, (callFunc 125 args).run Tryz.prog w = .ok (.enter 125 args) w := fun _ _ => by kernel_rfl
theorem sac_shape {S : Nat → Prop} {w : World} {x : ActT} {cs : List Value} (h : actTR.At S w x cs) : ∃ Aa la ca Ba lb cb Ca lc cc Da ld cd, cs = [.string x.id, .slice Aa la ca, .slice Ba lb cb, .slice Ca lc cc, .slice Da ld cd] := by
  obtain ⟨v1, v2, v3, v4, rfl, _, ⟨A1, c1, rfl, _⟩, ⟨A2, c2, rfl, _⟩, ⟨A3, c3, rfl, _⟩, ⟨A4, c4, rfl, _⟩⟩ := h
  exact ⟨_, _, _, _, _, _, _, _, _, _, _, _, rfl⟩

set_option maxRecDepth 100000 in
set_option maxHeartbeats 400000 in
theorem sac1_ok (x : ActT) (nm : ByteArray) (S : Nat → Prop) (w : World) (cs : List Value) (g : Nat) (h : actTR.At S w x cs) (hg : OneBox w g (.string nm) 9) :
    Calls Tryz.prog 125 (#[.agg cs.toArray] ++ #[.pointer (some ⟨g, 0, none⟩)]) w fun e w' => e = .returned (.bool (x.id.toList == nm.toList)) ∧ Ext w w' := by
  obtain ⟨Aa, la, ca, Ba, lb, cb, Ca, lc, cc, Da, ld, cd, rfl⟩ := sac_shape h
  have c0 := (hg.block (Below.heap_alloc w (.cells #[.string x.id, .slice Aa la ca, .slice Ba lb cb, .slice Ca lc cc, .slice Da ld cd] 114) g (Blk_lt hg))).cell
  clear hg h
  show Calls Tryz.prog 125 #[.agg #[.string x.id, .slice Aa la ca, .slice Ba lb cb, .slice Ca lc cc, .slice Da ld cd], .pointer (some ⟨g, 0, none⟩)] w _
  go_enter Tryz.func125, Tryz.ntmps125
  go_wp2_with fail
  go_ret
  exact ⟨rfl, (Ext.refl w).alloc _⟩

def zeroActT : List Value := [.string ByteArray.empty, .slice none 0 0, .slice none 0 0, .slice none 0 0, .slice none 0 0]
theorem zeroActT_one : ∀ v ∈ zeroActT, v.oneCell' = true := by decide
/-- the first of a name -/
abbrev sacIdx (l : List ActT) (nm : ByteArray) : Option Nat := fidx (fun a : ActT => a.id.toList == nm.toList) l
/-- the first of a name, told in two parts -/
def ActTAns (S : Nat → Prop) (l : List ActT) (nm : ByteArray) (w : World) (e : Ending) (w' : World) : Prop := ∃ cs : List Value, e = .returned (.tuple #[.agg cs.toArray, .bool (sacIdx l nm).isSome]) ∧
  ((sacIdx l nm = none ∧ cs = zeroActT) ∨ ∃ i a, sacIdx l nm = some i ∧ l[i]? = some a ∧ actTR.At S w' a cs) ∧ Ext w w'

set_option maxRecDepth 100000 in
set_option maxHeartbeats 800000 in
theorem sac_ok (S : Nat → Prop) (s : Sch) (ss : List Value) (nm : ByteArray) (w : World) (hS : ∀ b, S b → b < w.heap.size) (hs : Sch.At S w s ss) :
    Calls Tryz.prog 96 #[.agg ss.toArray, .string nm] w (ActTAns S s.acts nm w) := by
  obtain ⟨v1, v2, rfl, h1, h2⟩ := hs
  obtain ⟨A1, cap1, rfl, ⟨_, _, hl2⟩, _⟩ := id h2
  obtain ⟨A2, cap2, rfl, ⟨_, _, hm2⟩, _⟩ := id h1
  rw [maxLen_eq] at hl2 hm2
  have HL := Lib.hid h2
  have HS := Lib.hid hS
  obtain ⟨l, hl⟩ : ∃ l, l = s.acts := ⟨_, rfl⟩
  rw [← hl] at HL ⊢
  have hlen : l.length ≤ 1073741824 := by obtain ⟨_, _, _, ⟨h, _⟩, _⟩ := HL.out; rw [LIM_eq] at h; exact h
  have hlc := HL.out
  obtain ⟨_, _, e, ⟨_, hl1, _⟩, _⟩ := hlc
  injection e with e1 e2 e3
  subst e3
  rw [← hl] at *
  have HD : Hid (∀ e w', ActTAns S l nm w e w' ↔ ∃ cs : List Value, e = .returned (.tuple #[.agg cs.toArray, .bool (sacIdx l nm).isSome]) ∧ ((sacIdx l nm = none ∧ cs = zeroActT) ∨ ∃ i a, sacIdx l nm = some i ∧ l[i]? = some a ∧ actTR.At S w' a cs) ∧ Ext w w') := Lib.hid fun _ _ => Iff.rfl
  clear h1 h2 hS hl e1 e2
  obtain ⟨n2, hn2⟩ : ∃ n2, n2 = s.types.length := ⟨_, rfl⟩
  rw [← hn2] at *
  clear hn2
  go_enter Tryz.func96, Tryz.ntmps96
  go_wp2_with fail
  obtain ⟨hb0, hb1, hb2, hsz, hx⟩ := heapT3 w (.cells #[Value.slice A2 n2 cap2, .slice A1 l.length cap1] 70) (.cells #[.string nm] 9) (.cells zeroActT.toArray 114)
  rw [show (#[Value.string ⟨#[]⟩, .slice none 0 0, .slice none 0 0, .slice none 0 0, .slice none 0 0] : Array Value) = zeroActT.toArray from rfl]
  generalize ((w.alloc (.cells #[Value.slice A2 n2 cap2, .slice A1 l.length cap1] 70)).alloc (.cells #[.string nm] 9)).alloc (.cells zeroActT.toArray 114) = W at hb0 hb1 hb2 hsz hx ⊢
  have HX := Lib.hid hx
  have HLW := Lib.hid (HL.out.alike (Alike.of_ext hx HS.out))
  have HB0 := Lib.hid hb0
  have HB2 := Lib.hid hb2
  have hsW : ∀ b, S b → b < W.heap.size := fun b hb => Nat.lt_of_lt_of_le (HS.out b hb) hx.size
  have hK := indexFuncRC actTR rfl 125 #[.pointer (some ⟨w.heap.size + 1, 0, none⟩)] (fun a : ActT => a.id.toList == nm.toList) S l _ W Tryz.enterAction1 hsW HLW.out (fun a _ cs w1 hw1 ha => sac1_ok a nm S w1 cs (w.heap.size + 1) ha ((hw1.block _ (Blk_lt hb1)).trans hb1))
  have HK := Lib.hid hK
  clear hb0 hb1 hb2 hsz hx hK
  refine HK.out.mono ?_
  rintro e w2 ⟨rfl, hx2⟩
  have HX2 := Lib.hid (HX.out.trans hx2)
  have HB2' := Lib.hid ((hx2.block _ (Blk_lt HB2.out)).trans HB2.out)
  have g0 : w2.cell? ⟨w.heap.size, 1, none⟩ = some (.slice A1 l.length cap1) := cell_of_row _ _ 1 _ _ _ ((hx2.block _ (Blk_lt HB0.out)).trans HB0.out)
  have HL2 := Lib.hid (HLW.out.alike (Alike.of_ext hx2 hsW))
  clear hx2 hsW HK HLW HX HB2 HB0 HL
  obtain ⟨ix, hix⟩ : ∃ ix, sacIdx l nm = ix := ⟨_, rfl⟩
  unfold sacIdx at hix
  rw [hix]
  have HI := Lib.hid hix
  clear hix
  cases ix with
  | none =>
    simp only [pos]
    go_wp2_with (refine wpList_store_cells rfl 114 _ _ rfl (w.heap.size + 1 + 1) 0 rfl zeroActT rfl Tryz.sizeRC rfl 114 zeroActT.toArray HB2'.out (by simp [zeroActT]) zeroActT_one ?_)
    refine bodyPost_ret (v := .tuple #[.agg zeroActT.toArray, .bool false]) (results_cell Tryz.results96 rfl Tryz.aggRC Tryz.sizeRC rfl (cellsAt_setRow HB2'.out (by simp [zeroActT]))) rfl ((HD.out _ _).2 ⟨zeroActT, ?_, .inl ⟨HI.out, rfl⟩, HX2.out.setRow (by omega) _⟩)
    rw [show sacIdx l nm = none from HI.out]; rfl
  | some i =>
    obtain ⟨a, hia, hp⟩ := fidx_lt HI.out
    have hil := (List.getElem?_eq_some_iff.1 hia).1
    obtain ⟨A', cap', e, _, hrow⟩ := HL2.out
    obtain ⟨b, o, rfl, hSb, hrow⟩ := hrow (by omega)
    injection e with e1 e2 e3
    subst e1
    obtain ⟨cs, hca, hat⟩ := hrow i a hia
    have hca : CellsAt w2 b (o + i * 5) cs := hca
    obtain ⟨Aa, la, ca, Ba, lb, cb, Ca, lc, cc, Da, ld, cd, rfl⟩ := sac_shape hat
    have Hca := Lib.hid hca
    have Hat := Lib.hid hat
    have Hia := Lib.hid hia
    clear hca hat hia hrow hSb hp e2 e3 HL2
    simp only [pos]
    go_wp2_with (first | refine wpList_load_cells rfl 114 _ rfl b (o + i * 5) rfl Tryz.aggRC Tryz.sizeRC rfl Hca.out ?_ | refine wpList_store_cells rfl 114 _ _ rfl (w.heap.size + 1 + 1) 0 rfl [.string a.id, .slice Aa la ca, .slice Ba lb cb, .slice Ca lc cc, .slice Da ld cd] rfl Tryz.sizeRC rfl 114 zeroActT.toArray HB2'.out (by simp [zeroActT]) (actTR.one Hat.out) ?_)
    refine bodyPost_ret (v := .tuple #[.agg (show List Value from [.string a.id, .slice Aa la ca, .slice Ba lb cb, .slice Ca lc cc, .slice Da ld cd]).toArray, .bool true]) (results_cell Tryz.results96 rfl Tryz.aggRC Tryz.sizeRC rfl (cellsAt_setRow HB2'.out (by simp [zeroActT]))) rfl ((HD.out _ _).2 ⟨[.string a.id, .slice Aa la ca, .slice Ba lb cb, .slice Ca lc cc, .slice Da ld cd], ?_, .inr ⟨i, a, HI.out, Hia.out, ?_⟩, HX2.out.setRow (by omega) _⟩)
    · rw [show sacIdx l nm = some i from HI.out]; rfl
    · exact actTR.alike Hat.out (fun b' hb => (GrownBy.setRow w2 (w.heap.size + 1 + 1) _).block b' (Nat.lt_of_lt_of_le (HS.out b' hb) HX2.out.size) (fun e => by injection e with e; have := HS.out b' hb; omega))
end Go.Proofs.YtjllolagcdjlnaaGreat
