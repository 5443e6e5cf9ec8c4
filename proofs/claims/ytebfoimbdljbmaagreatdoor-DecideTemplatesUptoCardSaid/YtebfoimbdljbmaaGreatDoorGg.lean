/-
  What a law's arguments read as, as plain data in memory; that they read as they did. The conditions: what is read is of bulk at most 1048576.
-/
import Derived.ProofKit
import Derived.OpenShut
import Derived.JoinedCond
import Derived.Deep.Slices
import Derived.Carry
import Derived.Test.YtebfoimbdljbmaaGreatDoorGb
import Derived.Below
import Derived.ChangeSame
import Derived.WideKeyArgs
import Derived.Test.YtebfoimbdljbmaaGreatDoorGc
import Derived.Test.YtebfoimbdljbmaaGreatDoorGd
namespace Go.Proofs.YtebfoimbdljbmaaGreatDoor
open Go.ChangeShapes Go.WideShapes Go.ChangeAt Go.RowKit Go.Deep
set_option maxRecDepth 100000
theorem bulk_pos {H : Type} (d : DataW H) : 1 ≤ Rows.uptoBulk d := by
 cases d with
 | lit l => cases l <;> simp [Rows.uptoBulk]
 | nil => simp [Rows.uptoBulk]
 | ptr d => simp [Rows.uptoBulk]
 | slice elems spare => simp [Rows.uptoBulk]
 | agg parts => simp [Rows.uptoBulk]
 | iface t d => simp [Rows.uptoBulk]
 | map entries => simp [Rows.uptoBulk]
 | held h => simp [Rows.uptoBulk]
theorem zb3 {H : Type} {d : DataW H} : ∀ {l : List (DataW H)}, d ∈ l → Rows.uptoBulk d ≤ Rows.uptoBulkAll l
 | x :: r, h => by
  simp only [Rows.uptoBulkAll]
  rcases List.mem_cons.1 h with e | e
  ·subst e; omega
  ·have := zb3 e; omega
theorem bulk_length {H : Type} : ∀ l : List (DataW H), l.length ≤ Rows.uptoBulkAll l
 | [] => by simp [Rows.uptoBulkAll]
 | x :: r => by have := bulk_pos x; have := bulk_length r; simp only [Rows.uptoBulkAll, List.length_cons]; omega
theorem list_of {α : Type} {p : Nat → α → Prop} : ∀ n, (∀ i, i < n → ∃ x, p i x) → ∃ l : List α, l.length = n ∧ ∀ i x, l[i]? = some x → p i x
 | 0, _ => ⟨[], rfl, fun i x h => by simp at h⟩
 | n + 1, h => by
  obtain ⟨l, hl, hp⟩ := list_of n fun i hi => h i (by omega)
  obtain ⟨x, hx⟩ := h n (by omega)
  refine ⟨l ++ [x], by simp [hl], fun i y hy => ?_⟩
  rcases Nat.lt_or_ge i n with hin | hin
  ·rw [List.getElem?_append_left (by omega)] at hy; exact hp i y hy
  ·rw [List.getElem?_append_right (by omega)] at hy
   rcases Nat.lt_or_ge (i - l.length) 1 with h1 | h1
   ·have : i = n := by omega
    subst this
    rw [show i - l.length = 0 by omega] at hy
    simp at hy; subst hy; exact hx
   ·rw [List.getElem?_eq_none (by simpa using h1)] at hy; cases hy
theorem Tryz.cells3 : Tryz.prog.cellsOf 3 = 1 := by kernel_rfl
theorem Tryz.cells4 : Tryz.prog.cellsOf 4 = 1 := by kernel_rfl
theorem Tryz.cells2 : Tryz.prog.cellsOf 2 = 1 := by kernel_rfl
theorem zbd : Tryz.prog.cellsOf 9 = 1 := by kernel_rfl
theorem za8 : Tryz.prog.cellsOf 23 = 2 := by kernel_rfl
theorem Tryz.cells24 : Tryz.prog.cellsOf 24 = 1 := by kernel_rfl
theorem Tryz.cells25 : Tryz.prog.cellsOf 25 = 1 := by kernel_rfl
theorem zbx : Tryz.prog.cellsOf 27 = 8 := by kernel_rfl
section
variable {H : Type} {enc : TypeId × Value → H} {W : World}
theorem cells_first {a : Addr} {n m : Nat} {cs : List Value} (hn : 0 < n) (h : W.cells? 0 (a.add (0 * m)) n = some cs) : ∃ b off, a = ⟨b, off, none⟩ ∧ b < W.heap.size := by
 obtain ⟨_, hlen, hcell⟩ := World.cells?_some h
 obtain ⟨c, hc⟩ : ∃ c, cs[0]? = some c := ⟨_, List.getElem?_eq_getElem (by omega)⟩
 have h0 := (hcell 0 hn).trans hc
 obtain ⟨b, off, spot⟩ := a
 have h1 : W.cell? ⟨b, off, spot⟩ = some c := by simpa [Addr.add] using h0
 have hspot : spot = none := World.cell?_spot h1
 subst hspot
 exact ⟨b, off, rfl, World.block_lt_of_cell? W _ h1⟩
theorem cells_place {b off n m k : Nat} {cs : List Value} (h : W.cells? 0 ((⟨b, off, none⟩ : Addr).add (k * m)) n = some cs) : cs.length = n ∧ CellsAt W b (off + k * m) cs := by
 obtain ⟨_, hlen, hcell⟩ := World.cells?_some h
 refine ⟨hlen, fun j v hj => ?_⟩
 have hjl := (List.getElem?_eq_some_iff.1 hj).1
 have := (hcell j (by omega)).trans hj
 rwa [Go.WideShapes.add_plain, Go.WideShapes.add_plain] at this
theorem read_strs {fuel : Nat} {cs : List Value} {d : DataW H} {ps : List MemPlace} (h : DataW.trod enc Tryz.prog W 0 (fun _ => true) true fuel 25 cs = some (d, ps)) (hb : Rows.uptoBulk d ≤ 1048576) :
  ∃ l nv, cs = [nv] ∧ StrsAt (fun b => b < W.heap.size) W l nv := by
 rcases open_slice Tryz.underlying25 h with ⟨rfl, hx⟩ | ⟨a, len, cap, m, n, D, Pl, rfl, _, hl, hm, hme, hx, hel⟩
 ·exact ⟨[], _, rfl, none, 0, rfl, by simp, by simp, by simp, by simp, by simp⟩
 ·injection hx with hd _
  have hme : m = cap := by simpa using hme
  have hlen : len ≤ 1048576 := by
   rw [hd] at hb
   simp only [Rows.uptoBulk] at hb
   have := bulk_length ((List.range len).map D)
   simp at this; omega
  rcases Nat.eq_zero_or_pos len with h0 | hpos
  ·subst h0
   exact ⟨[], _, rfl, some a, cap, rfl, by simp, by simp, hm, by simp, by simp⟩
  obtain ⟨b, off, rfl, hbl⟩ : ∃ b off, a = ⟨b, off, none⟩ ∧ b < W.heap.size := by
   obtain ⟨cs', h1, _⟩ := hel 0 (by omega)
   rw [zbd] at h1
   exact cells_first (by omega) h1
  have hall : ∀ i, i < len → ∃ s : ByteArray, s.size ≤ maxLen ∧ CellsAt W b (off + i) [.string s] := fun i hi => by
   obtain ⟨cs', h1, h2⟩ := hel i (by omega)
   rw [zbd] at h1
   obtain ⟨_, hc⟩ := cells_place h1
   obtain ⟨s, rfl, _, hs⟩ := DataW.trod_string Tryz.underlying9 h2
   exact ⟨s, hs, by simpa using hc⟩
  obtain ⟨l, hll, hp⟩ := list_of len hall
  refine ⟨l, _, rfl, some ⟨b, off, none⟩, cap, by rw [hll], by rw [hll]; unfold LIM; omega, by omega, hm, fun s hs => ?_, fun _ => ⟨b, off, rfl, hbl, fun j v hj => ?_⟩⟩
  ·obtain ⟨i, hi, rfl⟩ := List.getElem_of_mem hs
   exact (hp i _ (List.getElem?_eq_getElem hi)).1
  ·rw [List.getElem?_map] at hj
   obtain ⟨s, hs, rfl⟩ := Option.map_eq_some_iff.1 hj
   simpa using (hp j s hs).2 0 _ rfl
theorem read_val : ∀ (B fuel : Nat) (cs : List Value) (d : DataW H) (ps : List MemPlace), DataW.trod enc Tryz.prog W 0 (fun _ => true) true fuel 27 cs = some (d, ps) → Rows.uptoBulk d ≤ B → B ≤ 1048576 →
  ∃ v, Val.At (fun b => b < W.heap.size) W v cs
 | 0, fuel, cs, d, ps, _, hb, _ => by have := bulk_pos d; omega
 | B + 1, fuel, cs, d, ps, h, hb, hB => by
  obtain ⟨xs, n, _, hx, hl, hlen, hf⟩ := DataW.trod_struct Tryz.underlying27 h
  rw [zbx] at hl
  injection hx with hd _
  match cs, hl with
  | [c0, c1, c2, c3, c4, c5, c6, c7], _ =>
  match xs, hlen with
  | [x0, x1, x2, x3, x4, x5, x6], _ =>
  have h0 : DataW.trod enc Tryz.prog W 0 (fun _ => true) true n 3 (([c0, c1, c2, c3, c4, c5, c6, c7].drop 0).take (Tryz.prog.cellsOf 3)) = some x0 := hf 0 _ rfl
  have h1 : DataW.trod enc Tryz.prog W 0 (fun _ => true) true n 4 (([c0, c1, c2, c3, c4, c5, c6, c7].drop 1).take (Tryz.prog.cellsOf 4)) = some x1 := hf 1 _ rfl
  have h2 : DataW.trod enc Tryz.prog W 0 (fun _ => true) true n 2 (([c0, c1, c2, c3, c4, c5, c6, c7].drop 2).take (Tryz.prog.cellsOf 2)) = some x2 := hf 2 _ rfl
  have h3 : DataW.trod enc Tryz.prog W 0 (fun _ => true) true n 9 (([c0, c1, c2, c3, c4, c5, c6, c7].drop 3).take (Tryz.prog.cellsOf 9)) = some x3 := hf 3 _ rfl
  have h4 : DataW.trod enc Tryz.prog W 0 (fun _ => true) true n 23 (([c0, c1, c2, c3, c4, c5, c6, c7].drop 4).take (Tryz.prog.cellsOf 23)) = some x4 := hf 4 _ rfl
  have h5 : DataW.trod enc Tryz.prog W 0 (fun _ => true) true n 24 (([c0, c1, c2, c3, c4, c5, c6, c7].drop 6).take (Tryz.prog.cellsOf 24)) = some x5 := hf 5 _ rfl
  have h6 : DataW.trod enc Tryz.prog W 0 (fun _ => true) true n 25 (([c0, c1, c2, c3, c4, c5, c6, c7].drop 7).take (Tryz.prog.cellsOf 25)) = some x6 := hf 6 _ rfl
  rw [Tryz.cells3] at h0
  rw [Tryz.cells4] at h1
  rw [Tryz.cells2] at h2
  rw [zbd] at h3
  rw [za8] at h4
  rw [Tryz.cells24] at h5
  rw [Tryz.cells25] at h6
  obtain ⟨k, e0, _, w0⟩ := DataW.trod_int Tryz.underlying3 h0
  obtain ⟨bo, e1, _⟩ := DataW.trod_bool Tryz.underlying4 h1
  obtain ⟨i, e2, _, w2⟩ := DataW.trod_int Tryz.underlying2 h2
  obtain ⟨t, e3, _, w3⟩ := DataW.trod_string Tryz.underlying9 h3
  obtain ⟨ys, m, _, _, _, hlen4, hf4⟩ := DataW.trod_struct Tryz.underlying23 h4
  match ys, hlen4 with
  | [y0, y1], _ =>
  have g0 : DataW.trod enc Tryz.prog W 0 (fun _ => true) true m 9 (([c4, c5].drop 0).take (Tryz.prog.cellsOf 9)) = some y0 := hf4 0 _ rfl
  have g1 : DataW.trod enc Tryz.prog W 0 (fun _ => true) true m 9 (([c4, c5].drop 1).take (Tryz.prog.cellsOf 9)) = some y1 := hf4 1 _ rfl
  rw [zbd] at g0 g1
  obtain ⟨ut, e4, _, w4⟩ := DataW.trod_string Tryz.underlying9 g0
  obtain ⟨ui, e5, _, w5⟩ := DataW.trod_string Tryz.underlying9 g1
  have hsub : ∀ x ∈ [x0, x1, x2, x3, x4, x5, x6], Rows.uptoBulk x.1 + 1 ≤ Rows.uptoBulk d := fun x hx => by
   rw [hd]
   have := zb3 (show x.1 ∈ [x0, x1, x2, x3, x4, x5, x6].map (fun x => x.1) from List.mem_map.2 ⟨x, hx, rfl⟩)
   simp only [Rows.uptoBulk]; omega
  have hb5 := hsub x5 (by simp)
  have hb6 := hsub x6 (by simp)
  obtain ⟨names, nv, e7, hn⟩ := read_strs (d := x6.1) (ps := x6.2) h6 (by omega)
  simp at e0 e1 e2 e3 e4 e5 e7
  subst e0 e1 e2 e3 e4 e5 e7
  have hI0 : I64 k := by simpa [I64, Lit.wf, IntKind.min, IntKind.max, IntKind.signed, IntKind.bits] using w0
  have hI2 : I64 i := by simpa [I64, Lit.wf, IntKind.min, IntKind.max, IntKind.signed, IntKind.bits] using w2
  rcases open_slice Tryz.underlying24 (x := x5) h5 with ⟨e6, hx5⟩ | ⟨a, len, cap, m', n', D, Pl, e6, _, hl', hm', hme, hx5, hel⟩
  ·simp at e6; subst e6
   refine ⟨.mk k bo i t ut ui [] names, ?_⟩
   unfold Val.At
   exact ⟨none, 0, _, rfl, ⟨hI0, hI2, w3, w4, w5⟩, ⟨by simp, by simp, by simp⟩, by simp, hn⟩
  ·simp at e6; subst e6
   have hme : m' = cap := by simpa using hme
   rw [hx5] at hb5
   have hlen5 : len ≤ 1048576 := by
    simp only [Rows.uptoBulk] at hb5
    have := bulk_length ((List.range len).map D)
    simp at this; omega
   rcases Nat.eq_zero_or_pos len with h0 | hpos
   ·subst h0
    refine ⟨.mk k bo i t ut ui [] names, ?_⟩
    unfold Val.At
    exact ⟨some a, cap, _, rfl, ⟨hI0, hI2, w3, w4, w5⟩, ⟨by simp, by simp, hm'⟩, by simp, hn⟩
   obtain ⟨b, off, rfl, hbl⟩ : ∃ b off, a = ⟨b, off, none⟩ ∧ b < W.heap.size := by
    obtain ⟨cs', q1, _⟩ := hel 0 (by omega)
    rw [zbx] at q1
    exact cells_first (by omega) q1
   have hel' : ∀ j, j < len → ∃ x : Val, ∃ cs', cs'.length = 8 ∧ CellsAt W b (off + j * 8) cs' ∧ Val.At (fun b => b < W.heap.size) W x cs' := fun j hj => by
    obtain ⟨cs', q1, q2⟩ := hel j (by omega)
    rw [zbx] at q1
    obtain ⟨hcl, hc⟩ := cells_place q1
    have hbj : Rows.uptoBulk (D j) ≤ B := by
     have := zb3 (List.mem_map_of_mem (f := D) (List.mem_range.2 hj))
     simp only [Rows.uptoBulk] at hb5
     omega
    obtain ⟨x, hx⟩ := read_val B n' cs' (D j) (Pl j) q2 hbj (by omega)
    exact ⟨x, cs', hcl, hc, hx⟩
   obtain ⟨l, hll, hp⟩ := list_of len hel'
   refine ⟨.mk k bo i t ut ui l names, ?_⟩
   unfold Val.At
   exact ⟨some ⟨b, off, none⟩, cap, _, by rw [hll], ⟨hI0, hI2, w3, w4, w5⟩, ⟨by rw [hll]; unfold LIM; omega, by omega, hm'⟩, fun _ => ⟨b, off, rfl, hbl, Val.RowAt.mk fun j x hx => hp j x hx⟩, hn⟩
end
end Go.Proofs.YtebfoimbdljbmaaGreatDoor

/-
  A law's last step: the call answered true and left old memory alone: what was read reads as it did. The conditions: none beyond the form's own.
-/
namespace Go.Proofs.YtebfoimbdljbmaaGreatDoor
open Go.ChangeShapes Go.WideShapes Go.ChangeAt Go.RowKit
set_option maxRecDepth 100000
theorem own : ownKnob Tryz.prog.godebug = none := by kernel_rfl
theorem laidOut : laidOutB Tryz.prog = true := by kernel_rfl
section
variable {H : Type} {enc : TypeId × Value → H}
theorem args_stay {W W' : World} (hb : Below W.heap.size W W') : ∀ (ts : List TypeId) (vs : List Value) (ds : List (DataW H)) (ps : List MemPlace) (sp : Nat → Bool), (∀ t ∈ ts, Tryz.prog.readableRec t = true ∧ t < Tryz.prog.types.size) →
  DataW.TrodAll enc Tryz.prog W 0 (fun _ => true) true ts vs ds ps → (∀ x ∈ ps, x.block < W.heap.size) → (∀ x ∈ ps, sp x.block = true) → DataW.TrodAll enc Tryz.prog W' 0 sp true ts vs ds ps
 | [], [], [], _, _, _, h, _, _ => h
 | t :: ts, v :: vs, d :: ds, ps, sp, hr, h, hlt, hs => by
  obtain ⟨p, q, h1, h2, rfl⟩ := h
  refine ⟨p, q, ?_, args_stay hb ts vs ds q sp (fun u hu => hr u (by simp [hu])) h2 (fun x hx => hlt x (by simp [hx])) (fun x hx => hs x (by simp [hx])), rfl⟩
  exact WideElems.Trod_stays laidOut (hr t (by simp)).1 (hr t (by simp)).2 h1 (fun x hx => hb.same (hlt x (by simp [hx]))) (fun x hx => hs x (by simp [hx]))
 | [], _ :: _, _, _, _, _, h, _, _ => by simp [DataW.TrodAll] at h
 | [], [], _ :: _, _, _, _, h, _, _ => by simp [DataW.TrodAll] at h
 | _ :: _, [], _, _, _, _, h, _, _ => by simp [DataW.TrodAll] at h
 | _ :: _, _ :: _, [], _, _, _, h, _, _ => by simp [DataW.TrodAll] at h
theorem law_post {f : Func} {s : ChangeSpec} {W W' : World} {args : Array Value} {ds gs : List (DataW H)} {before : List MemPlace} (hr : f.resultTypes = #[4]) (hv : s.vars = [])
  (hrd : ∀ t ∈ f.params.toList, Tryz.prog.readableRec t = true ∧ t < Tryz.prog.types.size) (hW : DataW.Whole enc Tryz.prog f.params.toList s.vars false W args.toList ds gs before)
  (hfn : s.fn H ds = { results := [.lit (.bool true)], args := ds }) (hb : Below W.heap.size W W') : s.post enc Tryz.prog f false true false false W args (.bool true) W' := by
 have hlt : ∀ p ∈ before, p.block < W.heap.size := fun p hp => hW.lt p hp
 have hold : ∀ p ∈ before, (fun b => decide (b < W.heap.size)) p.block = true := fun p hp => by simpa using hlt p hp
 have hW0 := hW
 obtain ⟨p, q, hA, hV, hpq, hz, hn⟩ := hW
 rw [hv] at hV
 obtain ⟨rfl, rfl⟩ := trodVars_none hV
 rw [List.append_nil] at hpq
 subst hpq
 have hfn' : s.fn H (ds ++ []) = { results := [.lit (.bool true)], args := ds } := by rw [List.append_nil]; exact hfn
 have hargs : ∀ sp : Nat → Bool, (∀ x ∈ before, sp x.block = true) → DataW.TrodAll enc Tryz.prog W' 0 sp true f.params.toList args.toList (s.fn H (ds ++ [])).args before := fun sp hsp => by
  rw [hfn']
  exact args_stay hb _ _ _ _ sp hrd hA hlt hsp
 have hres : ∀ (b : Nat) (sp : Nat → Bool) (hd : Bool), DataW.TrodAll enc Tryz.prog W' b sp hd f.resultTypes.toList ((Value.bool true).resultList f.resultTypes.size) (s.fn H (ds ++ [])).results [] := fun b sp hd => by
  rw [hfn', hr]
  exact trodAll_cons_mk (shut_bool Tryz.underlying4 _) trodAll_mk0
 have hvars : ∀ sp : Nat → Bool, DataW.TrodVars enc Tryz.prog W' sp s.vars (s.fn H (ds ++ [])).vars [] := fun sp => by
  rw [hfn', hv]; exact rfl
 refine ⟨ds, [], before, [], before, [], hW0, hres _ _ _, hargs _ hold, hvars _, World.keptBut_mono (fun p hp => ⟨hp, .inr (.inl hp)⟩) (hb.frame (· ∈ before)), fun _ => ?_⟩
 refine ⟨ok_one hr rfl (okWide_bool_mk Tryz.underlying4 _), _, _, ([] ++ before) ++ [], ⟨[] ++ before, [], trodAll_append (hargs _ (fun _ _ => rfl)) (hres _ _ _), hvars _, rfl, ?_, ?_⟩, ?_⟩
 ·intro b off hp
  have hin : MemPlace.cell b off ∈ before := by simpa using hp
  rw [hb.frozen (hlt _ hin)]
  exact hz b off hin
 ·intro ha; cases ha
 ·intro p hp _
  simpa using hp
end
end Go.Proofs.YtebfoimbdljbmaaGreatDoor

/-
  A law's argument that is a slice of values, or of strings, as plain data; rows as cells. The conditions: what is read is of bulk at most 1048576.
-/
namespace Go.Proofs.YtebfoimbdljbmaaGreatDoor
open Go.ChangeShapes Go.WideShapes Go.ChangeAt Go.RowKit Go.Deep
section
variable {H : Type} {enc : TypeId × Value → H} {W : World}
end
/-! ### rows as cells -/
theorem ValsAt.mono {S S' : Nat → Prop} {w : World} {l : List Val} {v : Value} (h : ValsAt S w l v) (k : ∀ b, S b → S' b) : ValsAt S' w l v := by
 obtain ⟨A, cap, e, h1, h2⟩ := h
 exact ⟨A, cap, e, h1, fun hn => let ⟨b, o, e, hs, hr⟩ := h2 hn; ⟨b, o, e, k b hs, Val.RowAt.mono k l b o hr⟩⟩
def ValsW (W : World) (l : List Val) (v : Value) : Prop := ValsAt (fun b => b < W.heap.size) W l v
theorem ValsW.ext {W W' : World} {l : List Val} {v : Value} (h : ValsW W l v) (k : Ext W W') : ValsW W' l v := (ValsAt.alike h (Alike.of_ext k fun _ h => h)).mono fun _ hb => Nat.lt_of_lt_of_le hb k.size
theorem Flat.append {S : Nat → Prop} {w : World} : ∀ {l m : List Val} {xs ys : List Value}, Flat S w l xs → Flat S w m ys → Flat S w (l ++ m) (xs ++ ys)
 | [], m, xs, ys, h, k => by simp only [Flat] at h; subst h; simpa using k
 | v :: r, m, xs, ys, ⟨c, zs, e, hv, hr⟩, k => by
  subst e
  exact ⟨c, zs ++ ys, by simp, hv, Flat.append hr k⟩
theorem InW.items {W : World} {v : Val} {v0 v1 v2 v3 v4 v5 v7 : Value} {A : Option Addr} {n c : Nat} (h : InW W v [v0, v1, v2, v3, v4, v5, .slice A n c, v7]) : v.items.length = n ∧ n ≤ 1073741824 := by
 cases v
 unfold InW Val.At at h
 obtain ⟨A', cap', nv, e, _, ⟨h1, _⟩, _⟩ := h
 simp only [List.cons.injEq, Value.slice.injEq] at e
 obtain ⟨_, _, _, _, _, _, ⟨_, e, _⟩, _⟩ := e
 rw [LIM_eq] at h1
 exact ⟨e.symm, by rw [e]; exact h1⟩
end Go.Proofs.YtebfoimbdljbmaaGreatDoor

/-
  A law's argument that is a slice of entities, as plain data. The conditions: what is read is of bulk at most 1048576.
-/
namespace Go.Proofs.YtebfoimbdljbmaaGreatDoor
open Go.ChangeShapes Go.WideShapes Go.ChangeAt Go.RowKit Go.Deep
set_option maxRecDepth 100000
section
variable {H : Type} {enc : TypeId × Value → H} {W : World}
theorem read_uid {fuel : Nat} {cs : List Value} {d : DataW H} {ps : List MemPlace} (h : DataW.trod enc Tryz.prog W 0 (fun _ => true) true fuel 23 cs = some (d, ps)) : ∃ x : Uid, uidR.At (fun b => b < W.heap.size) W x cs := by
 obtain ⟨ys, m, _, _, hl, hlen, hf⟩ := DataW.trod_struct Tryz.underlying23 h
 rw [za8] at hl
 match cs, hl with
 | [c4, c5], _ =>
 match ys, hlen with
 | [y0, y1], _ =>
 have g0 : DataW.trod enc Tryz.prog W 0 (fun _ => true) true m 9 (([c4, c5].drop 0).take (Tryz.prog.cellsOf 9)) = some y0 := hf 0 _ rfl
 have g1 : DataW.trod enc Tryz.prog W 0 (fun _ => true) true m 9 (([c4, c5].drop 1).take (Tryz.prog.cellsOf 9)) = some y1 := hf 1 _ rfl
 rw [zbd] at g0 g1
 obtain ⟨ut, e4, _, w4⟩ := DataW.trod_string Tryz.underlying9 g0
 obtain ⟨ui, e5, _, w5⟩ := DataW.trod_string Tryz.underlying9 g1
 simp at e4 e5
 subst e4 e5
 exact ⟨(ut, ui), rfl, w4, w5⟩
end
end Go.Proofs.YtebfoimbdljbmaaGreatDoor
