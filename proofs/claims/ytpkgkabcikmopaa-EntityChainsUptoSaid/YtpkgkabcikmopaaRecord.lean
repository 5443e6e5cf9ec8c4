/-
  What the program's record of names and items comes to. The conditions: the names and the items lie in blocks of S, as many names as items.
-/
import Derived.Test.YtpkgkabcikmopaaSortF
import Derived.Test.YtpkgkabcikmopaaItems
import Derived.Test.YtpkgkabcikmopaaCompact
import Derived.Test.YtpkgkabcikmopaaTwo
namespace Go.Proofs.Ytpkgkabcikmopaa
open Go.RowKit

/-- a value whose memory lies in S or is new, and an error -/
def ValErrIn (S : Nat → Prop) (x : Val) (er : Int) (w : World) (e : Ending) (w' : World) : Prop := ∃ cs : List Value, e = .returned (.tuple #[.agg cs.toArray, .int .i64 er]) ∧ Val.At (fun b => S b ∨ Fresh w.heap.size w' b) w' x cs ∧ Ext w w'

def zeroField : List Value := .string ByteArray.empty :: zeroCells
theorem Try.info124 : (Try.prog.info? 124).map (fun i => (i.zero, i.size, i.bytes)) = some (some (.agg zeroField.toArray), 9, 136) := by kernel_rfl
theorem Try.underlying122 : Try.prog.underlying 122 = some (.slice 124) := by kernel_rfl

/-- one field more behind a row of the call's own -/
theorem field_step {base : Nat} {S : Nat → Prop} {wr W2 w2 : World} {e : TypeId} {u : Value} {n : Nat} {ys : List Fld} {xs cs : List Value} {y : Fld} (hown : wr.ownsRow base e 9 u n xs) (hf : FlatF S wr ys xs)
    (hS : ∀ b, S b → b < base ∧ b < wr.heap.size) (h1 : Ext wr W2) (hy : FldAt S wr y cs) (hg : GrownBy W2 w2 u.ownBlock) :
    FlatF S w2 (ys ++ [y]) (xs ++ cs) := by
  have hal : Alike S wr w2 := fun b hb => by
    rw [hg.block b (Nat.lt_of_lt_of_le (hS b hb).2 h1.size) (fun e => by have := (hown.lt b e.symm).1; have := (hS b hb).1; omega), h1.block b (hS b hb).2]
  exact FlatF.snoc (hy.alike hal) (hf.alike hal)

/-! ### what rises -/
theorem cmpN_zero {x y : Fld} : cmpN x y = 0 ↔ x.1 = y.1 := ⟨fun h => cmpS_eq h, fun h => by unfold cmpN; rw [h]; exact (GoodAt.cmpS _).refl⟩
theorem fields_rise {l : List Fld} (hpw : l.Pairwise fun a b => cmpN a b ≤ 0) (hne : ∀ i x y, l[i]? = some x → l[i + 1]? = some y → y.1 ≠ x.1) : Strict cmpN l := by
  by_cases h0 : l.length = 0
  · have : l = [] := List.eq_nil_of_length_eq_zero h0
    subst this; exact List.Pairwise.nil
  · have := dedup_apart (c := cmpN) (l := l) (k := l.length - 1) (by omega) fun i x y _ hx hy h => hne i x y hx hy (cmpN_zero.1 h)
    rw [show l.length - 1 + 1 = l.length by omega, List.take_length] at this
    rw [← this]
    exact dedup_strict GoodAt.cmpN hpw
theorem zip_fst {names : List ByteArray} {l : List Val} (hlen : names.length = l.length) : (names.zip l).map (·.1) = names := List.map_fst_zip (by omega)
theorem nodup_at {α β : Type} {f : α → β} {l : List α} (h : (l.map f).Nodup) {i j : Nat} (hi : i < l.length) (hj : j < l.length) (e : f l[i] = f l[j]) : i = j := by
  rw [List.nodup_iff_pairwise_ne, List.pairwise_map, List.pairwise_iff_getElem] at h
  rcases Nat.lt_trichotomy i j with h1 | h1 | h1
  · exact absurd e (h i j hi hj h1)
  · exact h1
  · exact absurd e.symm (h j i hj hi h1)
theorem record_rise {names : List ByteArray} {l : List Val} {l' : List Fld} (hp : l'.Perm (names.zip l)) (hlen : names.length = l.length) (hs : Strict cmpN l') :
    record names l = (.mk 6 false 0 empty empty empty (l'.map (·.2)) (l'.map (·.1)), 0) := by
  have hnd : (l'.map (·.1)).Nodup := by
    rw [List.nodup_iff_pairwise_ne, List.pairwise_map]
    refine hs.imp fun {a b} h e => ?_
    rw [cmpN_zero.2 e] at h; cases h
  have hnd' : names.Nodup := by
    have := (hp.map (·.1)).nodup_iff.1 hnd
    rwa [zip_fst hlen] at this
  have hinj : ∀ x y : Fld, x ∈ l' → y ∈ l' → cmpN x y = 0 → x = y := fun x y hx hy h0 => by
    have h1 := cmpN_zero.1 h0
    obtain ⟨i, hi, rfl⟩ := List.getElem_of_mem hx
    obtain ⟨j, hj, rfl⟩ := List.getElem_of_mem hy
    have := nodup_at hnd hi hj h1
    subst this; rfl
  have hu : sortU cmpN (names.zip l) = l' := by
    refine strict_unique GoodAt.cmpN (sortU_strict GoodAt.cmpN _) hs fun x => ?_
    rw [sortU_mem (P := fun x => x ∈ l') hinj (fun x hx => hp.mem_iff.2 hx)]
    exact hp.mem_iff.symm
  unfold record
  rw [if_pos hnd', hu]
theorem record_twice {names : List ByteArray} {l : List Val} {l' : List Fld} (hp : l'.Perm (names.zip l)) (hlen : names.length = l.length) {i : Nat} {x y : Fld} (hx : l'[i]? = some x) (hy : l'[i + 1]? = some y) (h : y.1 = x.1) :
    record names l = (.zero, 13) := by
  unfold record
  rw [if_neg]
  intro hnd
  have hnd' : (l'.map (·.1)).Nodup := (hp.map (·.1)).nodup_iff.2 (by rw [zip_fst hlen]; exact hnd)
  obtain ⟨hi, rfl⟩ := List.getElem?_eq_some_iff.1 hx
  obtain ⟨hj, rfl⟩ := List.getElem?_eq_some_iff.1 hy
  have := nodup_at hnd' hj hi h
  omega

/-- a record in the making -/
structure Making (S : Nat → Prop) (w2 : World) (O : Nat) (l' : List Fld) (k : Nat) (wr : World) : Prop where
  grown : GrownBy w2 wr (some O)
  rows : ∃ (I N : Value) (xs : List Value), wr.heap[O]? = some (.cells #[.int .i64 6, .bool false, .int .i64 0, .string ByteArray.empty, .string ByteArray.empty, .string ByteArray.empty, I, N] 27 (0, 0)) ∧
    wr.ownsRow w2.heap.size 27 8 I k xs ∧ wr.ownsRow w2.heap.size 9 1 N k ((l'.take k).map fun p => .string p.1) ∧ Flat S wr ((l'.take k).map (·.2)) xs ∧ (∀ b, I.ownBlock = some b → N.ownBlock ≠ some b)

/-- one field more -/
theorem Making.next {S : Nat → Prop} {W2 wr w3 w4 : World} {O k : Nat} {l' : List Fld} {p : Fld} {I N I' N' : Value} {xsI cs : List Value} (h : GrownBy W2 wr (some O)) (hx3 : Ext wr w3)
    (hO3 : w3.heap[O]? = some (.cells #[.int .i64 6, .bool false, .int .i64 0, .string ByteArray.empty, .string ByteArray.empty, .string ByteArray.empty, I, N] 27 (0, 0))) (hOs : O < W2.heap.size) (hinv : TwoInv w3 I N w4)
    (hI : w3.ownsRow W2.heap.size 27 8 I k xsI) (hN : w3.ownsRow W2.heap.size 9 1 N k ((l'.take k).map fun p => .string p.1)) (hf : Flat S wr ((l'.take k).map (·.2)) xsI) (hS : ∀ b, S b → b < W2.heap.size ∧ b ≠ O)
    (h5 : Longer w3 W2.heap.size k 9 1 N ((l'.take k).map fun p => .string p.1) [.string p.1] N' w4) (h11 : Longer w3 W2.heap.size k 27 8 I xsI cs I' w4) (hne : ∀ b, N'.ownBlock = some b → I'.ownBlock ≠ some b) (hp : l'[k]? = some p) (hva : Val.At S wr p.2 cs) :
    Making S W2 O l' (k + 1) ((w4.setCell ⟨O, 7, none⟩ N').setCell ⟨O, 6, none⟩ I') := by
  have hIb : ∀ b, I.ownBlock = some b → W2.heap.size ≤ b := fun b hb => (hI.lt b hb).1
  have hNb : ∀ b, N.ownBlock = some b → W2.heap.size ≤ b := fun b hb => (hN.lt b hb).1
  have hO4 := (hinv.block O (Blk_lt hO3) (fun e => by have := hIb O e; omega) (fun e => by have := hNb O e; omega)).trans hO3
  have hO5 := heap_setCell_at hO4 7 N'
  have hO6 := heap_setCell_at hO5 6 I'
  have g4 : GrownBy w4 ((w4.setCell ⟨O, 7, none⟩ N').setCell ⟨O, 6, none⟩ I') (some O) := (GrownBy.setCell w4 O 7 N').trans (GrownBy.setCell _ O 6 I')
  have g3 : GrownBy W2 w4 (some O) := ⟨⟨hinv.os.trans (hx3.os.trans h.os), hinv.tape.trans (hx3.tape.trans h.tape), hinv.output.trans (hx3.output.trans h.output), Nat.le_trans h.size (Nat.le_trans hx3.size hinv.size), fun b hb hbo => by
    have s1 := h.size
    have s2 := hx3.size
    rw [hinv.block b (by omega) (fun e => by have := hIb b e; omega) (fun e => by have := hNb b e; omega), hx3.block b (by omega), h.block b hb hbo]⟩, Nat.le_trans h.drawn (Nat.le_trans hx3.drawn hinv.drawn)⟩
  have hal : Alike S wr ((w4.setCell ⟨O, 7, none⟩ N').setCell ⟨O, 6, none⟩ I') := fun b hb => by
    have s1 := h.size
    have s2 := hx3.size
    have s3 := hinv.size
    obtain ⟨hb1, hb2⟩ := hS b hb
    rw [g4.block b (by omega) (fun e => by injection e with e; omega), hinv.block b (by omega) (fun e => by have := hIb b e; omega) (fun e => by have := hNb b e; omega), hx3.block b (by omega)]
  refine ⟨g3.trans g4, I', N', xsI ++ cs, hO6, ?_, ?_, ?_, fun b hb hb' => hne b hb' hb⟩
  · exact ownsRow_apart h11.1 g4 fun b hb e => by injection e with e; have := (h11.1.lt b hb).1; omega
  · rw [take_succ_of hp, List.map_append]
    exact ownsRow_apart h5.1 g4 fun b hb e => by injection e with e; have := (h5.1.lt b hb).1; omega
  · rw [take_succ_of hp, List.map_append]
    exact Flat.snoc (hva.alike hal) (hf.alike hal)

/-- the record that has been made -/
theorem Making.fin {S S' : Nat → Prop} {w2 wr : World} {O k : Nat} {l' : List Fld} (h : Making S w2 O l' k wr) (hk : l'.length = k) (hl : k ≤ LIM) (hs : ∀ p ∈ l', p.1.size ≤ maxLen) (h1 : ∀ b, S b → S' b) (h2 : ∀ b, w2.heap.size ≤ b → b < wr.heap.size → S' b) :
    ∃ I N : Value, wr.heap[O]? = some (.cells #[.int .i64 6, .bool false, .int .i64 0, .string ByteArray.empty, .string ByteArray.empty, .string ByteArray.empty, I, N] 27 (0, 0)) ∧
      Val.At S' wr (.mk 6 false 0 empty empty empty (l'.map (·.2)) (l'.map (·.1))) [.int .i64 6, .bool false, .int .i64 0, .string ByteArray.empty, .string ByteArray.empty, .string ByteArray.empty, I, N] := by
  obtain ⟨I, N, xs, hO, hI, hN, hf, _⟩ := h.rows
  refine ⟨I, N, hO, ?_⟩
  rw [List.take_of_length_le (by omega)] at hN hf
  have e2 : (l'.map (·.2)).length = k := by rw [List.length_map, hk]
  have e1 : (l'.map (·.1)).length = k := by rw [List.length_map, hk]
  have hv := own_vals (S' := S') (by rw [e2]; exact hI) hf (by rw [e2]; exact hl) h1 fun b hb => h2 b (hI.lt b hb).1 (hI.lt b hb).2
  have hn := own_strs (S := S') (l := l'.map (·.1)) (by rw [e1, List.map_map]; exact hN) (by rw [e1]; exact hl) (fun s hs' => by
    obtain ⟨p, hp, rfl⟩ := List.mem_map.1 hs'
    exact hs p hp) fun b hb => h2 b (hN.lt b hb).1 (hN.lt b hb).2
  obtain ⟨A, cap, rfl, h3, h4⟩ := hv
  have h0 : empty.size ≤ maxLen := by rw [maxLen_eq]; decide
  unfold Val.At
  exact ⟨A, cap, N, rfl, ⟨⟨by omega, by omega⟩, ⟨by omega, by omega⟩, h0, h0, h0⟩, h3, h4, hn⟩

set_option maxRecDepth 100000 in
set_option maxHeartbeats 1600000 in
theorem record_ok (S Sn : Nat → Prop) (names : List ByteArray) (nv : Value) (l : List Val) (v : Value) (w : World) (hS : ∀ b, S b → b < w.heap.size) (hSn : ∀ b, Sn b → b < w.heap.size) (hn : StrsAt Sn w names nv) (hl : ValsAt S w l v) (hlen : names.length = l.length) (h4 : l.length ≤ 4096) :
    Calls Try.prog 78 #[nv, v] w (ValErrIn S (record names l).1 (record names l).2 w) := by
  obtain ⟨A, cap, rfl, ⟨hl0, hl1, hl2⟩, hlr⟩ := hl
  obtain ⟨A', cap', rfl, hn0, hn1, hn2, hn3, hnr⟩ := hn
  rw [LIM_eq] at hl0
  rw [maxLen_eq] at hl2 hn2
  have HS := Lib.hid hS
  have HSn := Lib.hid hSn
  have HL := Lib.hid hlr
  have HN := Lib.hid hnr
  have HN3 := Lib.hid hn3
  obtain ⟨res, hres⟩ : ∃ res, res = record names l := ⟨_, rfl⟩
  rw [← hres]
  have HR0 := Lib.hid hres
  clear hres
  have HE := Lib.hid hlen
  rw [hlen] at hn1 hn0
  clear hS hSn hlr hnr hn3 hn0
  obtain ⟨i0, hi, hz0, hz1, hz2⟩ := info_parts Try.info124
  go_enter Try.func78, Try.ntmps78
  rw [hlen]
  clear hlen
  go_wp2_with fail
  generalize hW0 : w.alloc (.cells #[.int .i64 0, .bool false, .int .i64 0, .string ⟨#[]⟩, .string ⟨#[]⟩, .string ⟨#[]⟩, .slice none 0 0, .slice none 0 0] 27) = W0
  have hw0 : Ext w W0 := by rw [← hW0]; exact (Ext.refl w).alloc _
  have hc0 : W0.heap[w.heap.size]? = some (.cells zeroCells.toArray 27 (0, 0)) := by rw [← hW0]; exact heap_alloc_new _ _
  have hs0 : W0.heap.size = w.heap.size + 1 := by rw [← hW0]; simp
  have HW := Lib.hid hw0
  have HC := Lib.hid hc0
  have HS0 := Lib.hid hs0
  have HSW := Lib.hid (show ∀ b, S b → b < W0.heap.size from fun b hb => Nat.lt_of_lt_of_le (HS.out b hb) hw0.size)
  clear hW0 hw0 hc0 hs0
  go_loopw [6, 14] (fun u i wr => ∃ k : Nat, k ≤ l.length ∧ i = .int .i64 k ∧ Ext W0 wr ∧ Hid (∃ xs, wr.ownsRow W0.heap.size 124 9 u k xs ∧ FlatF S wr ((names.zip l).take k) xs)) (fun _ i _ => l.length - (intOf i).toNat)
  case atStart => exact ⟨0, Nat.zero_le _, rfl, Ext.refl W0, [], World.ownsRow_nil _ _ _ _, rfl⟩
  case round =>
    obtain ⟨k, hk, rfl, hext, Hown⟩ := hrel
    have HX := Lib.hid hext
    clear hext
    by_cases hlt : k < l.length
    · obtain ⟨b, o, rfl, hSb, hrow⟩ := HL.out (by omega)
      obtain ⟨b', o', rfl, hSb', hrow'⟩ := HN.out (by have := HE.out; omega)
      obtain ⟨x, hx⟩ : ∃ x, l[k]? = some x := ⟨_, List.getElem?_eq_getElem hlt⟩
      obtain ⟨nm, hnm⟩ : ∃ x, names[k]? = some x := ⟨_, List.getElem?_eq_getElem (by have := HE.out; omega)⟩
      obtain ⟨cs, hcl, hca, hxa⟩ := hrow.get hx
      have Hca := Lib.hid (hca.alike hSb (Alike.of_ext (HW.out.trans HX.out) HS.out))
      have Hxa := Lib.hid (hxa.alike (Alike.of_ext (HW.out.trans HX.out) HS.out))
      have Hx := Lib.hid hx
      have Hnm := Lib.hid hnm
      have hcn : wr.cell? ⟨b', o' + k, none⟩ = some (.string nm) := (hrow'.alike hSb' (Alike.of_ext (HW.out.trans HX.out) HSn.out)) k _ (by simp [hnm])
      clear hx hxa hca hrow hcl hSb hrow' hSb' hnm
      obtain ⟨k1, b1, n1, t1, ut1, ui1, A1, l1, c1, A2, l2, c2, rfl⟩ := Hxa.out.shape
      obtain ⟨xs, hown, hflat⟩ := Hown.out
      have Ho := Lib.hid hown
      have Hf := Lib.hid hflat
      clear hown hflat Hown
      have hb1 : k + 1 ≤ 1073741824 := by omega
      go_wp2_with (first | refine wpList_load_cells rfl 27 _ rfl b (o + k * 8) rfl Try.agg27 Try.size27 rfl Hca.out ?_ | (at_builtin; refine wpList_append_at rfl (.tmp 19) (.tmp 26) 122 rfl W0.heap.size 124 i0 (.agg zeroField.toArray) 9 136 Try.underlying122 hi hz0 hz1 hz2 rfl (by decide) _ k xs rfl (ownsRow_ext Ho.out ((Ext.refl wr).alloc _)) wr.heap.size 0 1 1 [.string nm, .int .i64 k1, .bool b1, .int .i64 n1, .string t1, .string ut1, .string ui1, .slice A1 l1 c1, .slice A2 l2 c2] rfl rfl (cellsAt_new _ _ (by simp)) (FldAt.one (S := S) (w := wr) (p := (nm, x)) ⟨_, rfl, Hxa.out⟩) (by rw [maxLen_eq]; omega) (by omega) (HX.out.alloc _).size ?_))
      intro v' w2 hown' hgrow hblk
      have Ho' := Lib.hid hown'
      have Hg := Lib.hid hgrow
      clear hown' hgrow hblk
      go_wp2_with fail
      go_roundw
      case rel =>
        refine ⟨k + 1, by omega, by go_num, ext_grown (HX.out.alloc _) (ownsRow_ext Ho.out ((Ext.refl wr).alloc _)) Hg.out, _, Ho'.out, ?_⟩
        rw [take_succ_of (x := (nm, x)) (List.getElem?_zip_eq_some.2 ⟨Hnm.out, Hx.out⟩)]
        exact field_step Ho.out Hf.out (fun b hb => ⟨HSW.out b hb, Nat.lt_of_lt_of_le (HSW.out b hb) HX.out.size⟩) ((Ext.refl wr).alloc _) ⟨_, rfl, Hxa.out⟩ Hg.out
      case measure => simp [intOf]; omega
    · have hke : k = l.length := by omega
      subst hke
      obtain ⟨xs, hown, hflat⟩ := Hown.out
      obtain ⟨A6, cap6, rfl, hcap6⟩ : ∃ A6 cap6, u6 = .slice A6 l.length cap6 ∧ cap6 ≤ maxLen ∧ l.length ≤ cap6 := by
        rcases hown.2 with ⟨rfl, hn⟩ | ⟨g, cap, cur, rfl, _, _, h1, h2, _⟩
        · exact ⟨none, 0, by rw [hn], by rw [maxLen_eq]; omega, by omega⟩
        · exact ⟨_, _, rfl, h2, h1⟩
      rw [maxLen_eq] at hcap6
      obtain ⟨hc6, hc6'⟩ := hcap6
      have hzl : (names.zip l).length = l.length := by rw [List.length_zip, HE.out]; omega
      rw [List.take_of_length_le (by omega)] at hflat
      have Ho := Lib.hid hown
      have Hf := Lib.hid hflat
      clear hown hflat Hown
      go_wp2_with (go_at_call 96; refine (sortF_ok S W0.heap.size wr _ (names.zip l) xs (fun b hb => ⟨Nat.lt_of_lt_of_le (HSW.out b hb) HX.out.size, fun e => by have := (Ho.out.lt b e).1; have := HSW.out b hb; omega⟩) (by rw [hzl]; exact Ho.out) Hf.out (by rw [hzl, LIM_eq]; omega)).mono ?_)
      rintro e w1 ⟨rfl, l', xs', hperm, hpw, hown', hflat', hbel, hdr⟩
      have hll : l'.length = l.length := by rw [hperm.length_eq, hzl]
      rw [hll] at hown'
      have Ho1 := Lib.hid hown'
      have Hf1 := Lib.hid hflat'
      have HX1 : Hid (Ext W0 w1) := Lib.hid ⟨HX.out.toBelow.trans hbel, Nat.le_trans HX.out.drawn hdr⟩
      have Hp := Lib.hid hperm
      have Hpw := Lib.hid hpw
      have Hll := Lib.hid hll
      clear hown' hflat' hbel hdr hperm hpw hzl hll Ho Hf HX HL HN
      go_wp2_with fail
      go_loopw [34] (fun i wr => ∃ k : Nat, k ≤ l.length ∧ i = .int .i64 k ∧ Hid (Making S (w1.alloc (.cells #[.int .i64 6, .bool false, .int .i64 0, .string ByteArray.empty, .string ByteArray.empty, .string ByteArray.empty, .slice none 0 0, .slice none 0 0] 27)) w1.heap.size l' k wr ∧ ∀ i x y, i + 1 < k → l'[i]? = some x → l'[i + 1]? = some y → y.1 ≠ x.1)) (fun i _ => l.length - (intOf i).toNat)
      case atStart => exact ⟨0, Nat.zero_le _, rfl, ⟨GrownBy.of_ext _ (Ext.refl _), .slice none 0 0, .slice none 0 0, [], heap_alloc_new _ _, World.ownsRow_nil _ _ _ _, by simpa using World.ownsRow_nil _ _ _ _, rfl, fun b hb => by cases hb⟩, fun _ _ _ h => by omega⟩
      case round =>
        obtain ⟨k, hk, rfl, HM⟩ := hrel
        by_cases hlt : k < l.length
        · obtain ⟨p, hp⟩ : ∃ p, l'[k]? = some p := ⟨_, List.getElem?_eq_getElem (by rw [Hll.out]; exact hlt)⟩
          obtain ⟨hm, hne⟩ := HM
          have hrowF := Ho1.out.2
          obtain ⟨cf, hcf, hfat, hfx⟩ := Hf1.out.get hp
          obtain ⟨g6, rfl, hg6, hh6⟩ : ∃ g6, A6 = some ⟨g6, 0, none⟩ ∧ W0.heap.size ≤ g6 ∧ ∃ cur, w1.heap[g6]? = some (.cells cur 124 (0, 0)) ∧ cur.toList.take (l.length * 9) = xs' := by
            rcases hrowF with ⟨_, h⟩ | ⟨g, cap, cur, h, hg, hh, _, _, _, ht⟩
            · omega
            · cases h; exact ⟨g, rfl, hg, cur, hh, ht⟩
          obtain ⟨cur6, hh6, ht6⟩ := hh6
          have hh6' : wr.heap[g6]? = some (.cells cur6 124 (0, 0)) := by
            rw [hm.grown.block _ (by have := Blk_lt hh6; simp; omega) (fun e => by injection e with e; have := Blk_lt hh6; omega), Below.heap_alloc _ _ _ (Blk_lt hh6)]
            exact hh6
          have hal : Alike S w1 wr := fun b hb => by
            have h1 := Nat.lt_of_lt_of_le (HSW.out b hb) HX1.out.size
            rw [hm.grown.block _ (by simp; omega) (fun e => by injection e with e; omega), Below.heap_alloc _ _ _ h1]
          have hcell6 : ∀ (i : Nat) (c : List Value), i < l.length → c.length = 9 → (∀ j v, c[j]? = some v → xs'[i * 9 + j]? = some v) → CellsAt wr g6 (i * 9) c := fun i c hi hcl hcx j v hj => by
            have h1 := hcx j v hj
            rw [← ht6, List.getElem?_take] at h1
            rw [cell_of_row _ _ _ _ _ _ hh6']
            split at h1
            · simpa using h1
            · cases h1
          obtain ⟨cv, rfl, hva⟩ := hfat
          obtain ⟨k1, b1, n1, t1, ut1, ui1, A1, l1, c1, A2, l2, c2, rfl⟩ := hva.shape
          have hcp := hcell6 k _ hlt hcf hfx
          have Hva := Lib.hid (hva.alike hal)
          have Hp1 := Lib.hid hp
          have HM := Lib.hid hm
          have Hne := Lib.hid hne
          have Hcp := Lib.hid hcp
          have Hg6 := Lib.hid (Blk_lt hh6')
          have Hcell := Lib.hid hcell6
          clear hrowF hcf hfx hh6 ht6 hh6' hal hva hcp hp hm hne hcell6 hg6
          go_wp2_with (refine wpList_load_cells rfl 124 _ rfl g6 (k * 9) rfl Try.agg124 Try.size124 rfl Hcp.out ?_)
          generalize hW1 : wr.alloc (.cells #[.string p.1, .int .i64 k1, .bool b1, .int .i64 n1, .string t1, .string ut1, .string ui1, .slice A1 l1 c1, .slice A2 l2 c2] 124) = W1
          have hx1 : Ext wr W1 := by rw [← hW1]; exact (Ext.refl wr).alloc _
          have hcf : CellsAt W1 wr.heap.size 0 [.string p.1, .int .i64 k1, .bool b1, .int .i64 n1, .string t1, .string ut1, .string ui1, .slice A1 l1 c1, .slice A2 l2 c2] := by rw [← hW1]; exact cellsAt_new _ _ rfl
          have HXW := Lib.hid hx1
          have Hcf := Lib.hid hcf
          have Hlt : Hid (wr.heap.size < W1.heap.size) := Lib.hid (by rw [← hW1]; simp)
          clear hW1 hx1 hcf
          have f0 := cell_regrown (show W1.cell? ⟨wr.heap.size, 0, none⟩ = some (.string p.1) by simpa using Hcf.out 0 _ rfl)
          by_cases hk0 : k = 0
          case' pos =>
            have t0 : decide (0 < k) = false := by simp; omega
            have HN' : Hid (∀ i x y, i + 1 < k + 1 → l'[i]? = some x → l'[i + 1]? = some y → y.1 ≠ x.1) := Lib.hid fun i x y hi => by omega
            clear hk0
            refine region_later (by kernel_rfl) (by kernel_rfl) ?_
            repeat (go_big_quiet_step (fail))
            refine wpQuiet_nil ?_
            intro w3 hw3
            have HX3 := Lib.hid hw3
            clear hw3 f0
            go_wp2_with fail
          case' neg =>
            obtain ⟨q, hq⟩ : ∃ q, l'[k - 1]? = some q := ⟨_, List.getElem?_eq_getElem (by rw [Hll.out]; omega)⟩
            obtain ⟨cq, hcq, ⟨cq', rfl, hqa⟩, hqx⟩ := Hf1.out.get hq
            have f1 := cell_regrown (show W1.cell? ⟨g6, (k - 1) * 9, none⟩ = some (.string q.1) by
              have := Hcell.out (k - 1) _ (by omega) hcq hqx
              exact (World.cell?_of_block (a := ⟨g6, (k - 1) * 9, none⟩) (HXW.out.block _ Hg6.out)).trans (by simpa using this 0 _ rfl))
            have hqn : l'[k - 1]? = some q := hq
            have t0 : decide (0 < k) = true := by simp; omega
            have q1 : IntKind.i64.wrap ((k : Int) - 1) = ((k - 1 : Nat) : Int) := by rw [show (k : Int) - 1 = ((k - 1 : Nat) : Int) by omega]; exact IntWalk.i64_in _ (by omega)
            have q2 : (0 : Int) ≤ ((k - 1 : Nat) : Int) := by omega
            have q3 : ((k - 1 : Nat) : Int) < l.length := by omega
            have q4 : k - 1 < l.length := by omega
            have Hqn := Lib.hid hqn
            clear hq hcq hqa hqx hqn
            have Hk0 := Lib.hid hk0
            clear hk0
            refine region_later (by kernel_rfl) (by kernel_rfl) ?_
            repeat (go_big_quiet_step (fail))
            refine wpQuiet_nil ?_
            intro w3 hw3
            have HX3 := Lib.hid hw3
            clear hw3 f0 f1 q1 q2 q3 q4
            by_cases he : p.1 = q.1
            · have e0 : (p.1.toList == q.1.toList) = true := by rw [he]; simp
              rw [e0]
              clear e0
              have hrec := record_twice Hp.out HE.out Hqn.out (by rw [show k - 1 + 1 = k by have := Hk0.out; omega]; exact Hp1.out) he
              have hextr : Ext w w3 := by
                have h1 : Ext w (w1.alloc (.cells #[.int .i64 6, .bool false, .int .i64 0, .string ByteArray.empty, .string ByteArray.empty, .string ByteArray.empty, .slice none 0 0, .slice none 0 0] 27)) := (HW.out.trans HX1.out).alloc _
                have h2 := (HW.out.trans HX1.out).size
                exact Ext.trans ⟨h1.toBelow.trans ⟨HM.out.grown.os, HM.out.grown.tape, HM.out.grown.output, HM.out.grown.size, fun b hb => HM.out.grown.block b (Nat.lt_of_lt_of_le hb h1.size) (fun e => by injection e with e; omega)⟩, Nat.le_trans h1.drawn HM.out.grown.drawn⟩ (HXW.out.trans HX3.out)
              have hcell : w3.heap[w.heap.size]? = some (.cells zeroCells.toArray 27 (0, 0)) := by
                have h1 := HX1.out.size
                have h2 := HS0.out
                have h3 := HM.out.grown.size
                rw [(HXW.out.trans HX3.out).block _ (by simp at h3; omega), HM.out.grown.block _ (by simp; omega) (fun e => by injection e with e; omega), Below.heap_alloc _ _ _ (by omega), HX1.out.block _ (by omega)]
                exact HC.out
              have HR := Lib.hid hrec
              have HXr := Lib.hid hextr
              have HCl := Lib.hid hcell
              clear he hrec hextr hcell HM Hcp Hcell Hcf HN3 Hp Hpw
              go_wp2_with (refine wpList_store_cells rfl 27 _ _ rfl w.heap.size 0 rfl zeroCells rfl Try.size27 rfl 27 zeroCells.toArray HCl.out (by simp [zeroCells]) zero_one ?_)
              rw [HR0.out, HR.out]
              exact bodyPost_ret (v := .tuple #[.agg zeroCells.toArray, .int .i64 13]) (results_cell Try.results78 rfl Try.agg27 Try.size27 rfl (cellsAt_setRow HCl.out (by simp [zeroCells]))) rfl ⟨zeroCells, rfl, Val.zero_at _ _, HXr.out.setRow (Nat.le_refl _) _⟩
            have e0 : (p.1.toList == q.1.toList) = false := by rw [beq_eq_false_iff_ne]; exact fun e => he (toList_inj e)
            rw [e0]
            clear e0
            have HN' : Hid (∀ i x y, i + 1 < k + 1 → l'[i]? = some x → l'[i + 1]? = some y → y.1 ≠ x.1) := Lib.hid fun i x y hi hx hy => by
              by_cases hik : i + 1 < k
              · exact Hne.out i x y hik hx hy
              · have hk1 : i = k - 1 := by omega
                subst hk1
                rw [Hqn.out] at hx
                rw [show k - 1 + 1 = k by have := Hk0.out; omega, Hp1.out] at hy
                cases hx; cases hy; exact he
            clear he
            go_wp2_with fail
          all_goals
            obtain ⟨I, N, xsI, hO, hI0, hN0, hfI, hne2⟩ := HM.out.rows
            obtain ⟨B, hB, hI1, hN1⟩ : ∃ B, B = (w1.alloc (.cells #[.int .i64 6, .bool false, .int .i64 0, .string ByteArray.empty, .string ByteArray.empty, .string ByteArray.empty, .slice none 0 0, .slice none 0 0] 27)).heap.size ∧
              wr.ownsRow B 27 8 I k xsI ∧ wr.ownsRow B 9 1 N k ((l'.take k).map fun p => .string p.1) := ⟨_, rfl, hI0, hN0⟩
            have hx3 : Ext wr w3 := HXW.out.trans HX3.out
            have hO3 := (hx3.block _ (Blk_lt hO)).trans hO
            have hI3 := ownsRow_ext hI1 hx3
            have hN3 := ownsRow_ext hN1 hx3
            have hF3 := Hcf.out.alike (S := fun b => b < W1.heap.size) Hlt.out (Alike.of_ext HX3.out fun _ h => h)
            have hIl : ∀ b, I.ownBlock = some b → b < w3.heap.size := fun b hb => (hI3.lt b hb).2
            have hNl : ∀ b, N.ownBlock = some b → b < w3.heap.size := fun b hb => (hN3.lt b hb).2
            have hIb : ∀ b, I.ownBlock = some b → B ≤ b := fun b hb => (hI3.lt b hb).1
            have hNb : ∀ b, N.ownBlock = some b → B ≤ b := fun b hb => (hN3.lt b hb).1
            have hBl : B ≤ w3.heap.size := by rw [hB]; exact Nat.le_trans HM.out.grown.size hx3.size
            have hF3l : wr.heap.size < w3.heap.size := Nat.lt_of_lt_of_le Hlt.out HX3.out.size
            have hcO6 : w3.cell? ⟨w1.heap.size, 7, none⟩ = some N := by rw [cell_of_row _ _ _ _ _ _ hO3]; rfl
            have hcO5 : w3.cell? ⟨w1.heap.size, 6, none⟩ = some I := by rw [cell_of_row _ _ _ _ _ _ hO3]; rfl
            have HcO6 := Lib.hid hcO6
            have HcO5 := Lib.hid hcO5
            have HX3' := Lib.hid hx3
            have HO3 := Lib.hid hO3
            have HI1 : Hid (∀ b, I.ownBlock = some b → b < wr.heap.size) := Lib.hid fun b hb => (hI1.lt b hb).2
            have HN1 : Hid (∀ b, N.ownBlock = some b → b < wr.heap.size) := Lib.hid fun b hb => (hN1.lt b hb).2
            have HI3 := Lib.hid hI3
            have HN3' := Lib.hid hN3
            have HF3 := Lib.hid hF3
            have HIl := Lib.hid hIl
            have HNl := Lib.hid hNl
            have HIb := Lib.hid hIb
            have HNb := Lib.hid hNb
            have HfI := Lib.hid hfI
            have Hne2 := Lib.hid hne2
            have HB := Lib.hid hB
            have HBl := Lib.hid hBl
            clear hO hI0 hN0 hfI hne2 hB hI1 hN1 hx3 hO3 hI3 hN3 hF3 hIl hNl hIb hNb hBl hcO6 hcO5
            refine two_region (w3 := w3) (B := B) (O := w1.heap.size) (F := wr.heap.size) (I := I) (N := N) (k := k) (xsI := xsI) (xsN := (l'.take k).map fun p => .string p.1) (nm := p.1) (cs := [.int .i64 k1, .bool b1, .int .i64 n1, .string t1, .string ut1, .string ui1, .slice A1 l1 c1, .slice A2 l2 c2]) 9 11 53
              (by kernel_rfl) (by kernel_rfl) (fun i hi => ?_) ⟨by kernel_rfl, by kernel_rfl, by kernel_rfl, by kernel_rfl, by kernel_rfl, by kernel_rfl, by kernel_rfl, by kernel_rfl, by kernel_rfl, by kernel_rfl⟩ (by simp) (by omega) (by omega) rfl rfl HcO6.out HcO5.out HF3.out rfl Hva.out.one ?_ ?_ ?_ ?_ HI3.out HN3'.out Hne2.out HBl.out (by omega) ?_
            · rcases (by omega : i = 0 ∨ i = 1 ∨ i = 2 ∨ i = 3 ∨ i = 4 ∨ i = 5 ∨ i = 6 ∨ i = 7 ∨ i = 8 ∨ i = 9 ∨ i = 10 ∨ i = 11 ∨ i = 12) with rfl | rfl | rfl | rfl | rfl | rfl | rfl | rfl | rfl | rfl | rfl | rfl | rfl <;> exact ⟨_, rfl, rfl, rfl, rfl⟩
            · exact Blk_lt HO3.out
            · exact hF3l
            · intro b hb
              have h1 : w1.heap.size < B := by rw [HB.out]; simp
              exact ⟨fun e => by have := HIb.out b e; omega, fun e => by have := HNb.out b e; omega⟩
            · intro b hb
              exact ⟨fun e => by have := HI1.out b e; omega, fun e => by have := HN1.out b e; omega⟩
            intro xs w4 hxl hinv h5 h11 h12 hne4
            obtain ⟨x0, x1, x2, x3, x4, x5, x6, x7, x8, x9, x10, x11, x12, rfl⟩ := list13 hxl
            clear hxl
            simp only [List.getD_cons_succ, List.getD_cons_zero] at h5 h11 h12 hne4
            subst h12
            obtain ⟨E5, q5, rfl⟩ := own_shape h5.1
            obtain ⟨E11, q11, rfl⟩ := own_shape h11.1
            have hw4O := (hinv.block w1.heap.size (Blk_lt HO3.out) (fun e => by have h1 : w1.heap.size < B := (by rw [HB.out]; simp); have := HIb.out _ e; omega) (fun e => by have h1 : w1.heap.size < B := (by rw [HB.out]; simp); have := HNb.out _ e; omega)).trans HO3.out
            have k7 : w4.cell? ⟨w1.heap.size, 7, none⟩ = some N := by rw [cell_of_row _ _ _ _ _ _ hw4O]; rfl
            have k6 : w4.cell? ⟨w1.heap.size, 6, none⟩ = some I := by rw [cell_of_row _ _ _ _ _ _ hw4O]; rfl
            have f7 : w4.frozen? ⟨w1.heap.size, 7, none⟩ = false := frozen_of_row _ _ _ _ _ hw4O
            have f6 : w4.frozen? ⟨w1.heap.size, 6, none⟩ = false := frozen_of_row _ _ _ _ _ hw4O
            have H5 := Lib.hid h5
            have H11 := Lib.hid h11
            have Hinv := Lib.hid hinv
            have Hne4 := Lib.hid hne4
            clear h5 h11 hinv hne4 hw4O
            simp only [List.take, List.drop, putAll]
            go_wp2_with fail
            go_roundw
            case rel =>
              refine ⟨k + 1, by omega, by go_num, Making.next HM.out.grown HX3'.out HO3.out (by simp) Hinv.out (by rw [← HB.out]; exact HI3.out) (by rw [← HB.out]; exact HN3'.out) HfI.out (fun b hb => ?_) (by rw [← HB.out]; exact H5.out) (by rw [← HB.out]; exact H11.out) Hne4.out Hp1.out Hva.out, HN'.out⟩
              have h1 := Nat.lt_of_lt_of_le (HSW.out b hb) HX1.out.size
              exact ⟨by simp; omega, by omega⟩
            case measure => simp [intOf]; omega
        · have hke : k = l.length := by omega
          subst hke
          obtain ⟨hm, hne⟩ := HM
          have hlt0 : w.heap.size < wr.heap.size := by have := hm.grown.size; have := HX1.out.size; have := HS0.out; simp at *; omega
          have hcell : wr.heap[w.heap.size]? = some (.cells zeroCells.toArray 27 (0, 0)) := by
            have h1 := HX1.out.size
            have h2 := HS0.out
            rw [hm.grown.block _ (by simp; omega) (fun e => by injection e with e; omega), Below.heap_alloc _ _ _ (by omega), HX1.out.block _ (by omega)]
            exact HC.out
          have hstrict := fields_rise (l := l') Hpw.out fun i x y hx hy => hne i x y (by have := (List.getElem?_eq_some_iff.1 hy).1; have := Hll.out; omega) hx hy
          have hrec := record_rise Hp.out HE.out hstrict
          have hextf : Ext w wr := by
            have h1 : Ext w (w1.alloc (.cells #[.int .i64 6, .bool false, .int .i64 0, .string ByteArray.empty, .string ByteArray.empty, .string ByteArray.empty, .slice none 0 0, .slice none 0 0] 27)) := (HW.out.trans HX1.out).alloc _
            have h2 := (HW.out.trans HX1.out).size
            exact ⟨h1.toBelow.trans ⟨hm.grown.os, hm.grown.tape, hm.grown.output, hm.grown.size, fun b hb => hm.grown.block b (Nat.lt_of_lt_of_le hb h1.size) (fun e => by injection e with e; omega)⟩, Nat.le_trans h1.drawn hm.grown.drawn⟩
          obtain ⟨I, N, hO, hat⟩ := hm.fin (S' := fun b => (S b ∨ Fresh w.heap.size wr b) ∧ b ≠ w.heap.size) Hll.out (by rw [LIM_eq]; omega) (fun p hp => HN3.out _ (by
            have : p.1 ∈ (names.zip l).map (·.1) := List.mem_map.2 ⟨p, Hp.out.mem_iff.1 hp, rfl⟩
            rwa [zip_fst HE.out] at this)) (fun b hb => ⟨.inl hb, by have := HS.out b hb; omega⟩) (fun b h1 h2 => ⟨.inr ⟨by have := (HW.out.trans HX1.out).size; simp at h1; omega, h2⟩, by have := HX1.out.size; have := HS0.out; simp at h1; omega⟩)
          have HA := Lib.hid hat
          have HO := Lib.hid hO
          have HCl := Lib.hid hcell
          have HXf := Lib.hid hextf
          have HR := Lib.hid hrec
          have hone := hat.one
          have HOne := Lib.hid hone
          clear hm hne hcell hstrict hrec hextf hat hO hone
          go_wp2_with (first | refine wpList_load_cells rfl 27 _ rfl w1.heap.size 0 rfl Try.agg27 Try.size27 rfl (fun j v hj => by rw [cell_of_row _ _ _ _ _ _ HO.out, Nat.zero_add]; simpa using hj) ?_ | refine wpList_store_cells rfl 27 _ _ rfl w.heap.size 0 rfl [.int .i64 6, .bool false, .int .i64 0, .string ByteArray.empty, .string ByteArray.empty, .string ByteArray.empty, I, N] rfl Try.size27 rfl 27 zeroCells.toArray HCl.out (by simp [zeroCells]) HOne.out ?_)
          rw [HR0.out, HR.out]
          refine bodyPost_ret (v := .tuple #[.agg #[.int .i64 6, .bool false, .int .i64 0, .string ByteArray.empty, .string ByteArray.empty, .string ByteArray.empty, I, N], .int .i64 0]) (results_cell Try.results78 rfl Try.agg27 Try.size27 rfl (cellsAt_setRow HCl.out (by simp [zeroCells]))) rfl ⟨[.int .i64 6, .bool false, .int .i64 0, .string ByteArray.empty, .string ByteArray.empty, .string ByteArray.empty, I, N], rfl, ?_, HXf.out.setRow (Nat.le_refl _) _⟩
          refine (HA.out.alike (w' := wr.setRow w.heap.size _) fun b hb => (GrownBy.setRow wr w.heap.size _).block b ?_ (fun e => by injection e with e; exact hb.2 e)).mono fun b hb => ?_
          · rcases hb.1 with h | h
            · exact Nat.lt_of_lt_of_le (HS.out b h) HXf.out.size
            · exact h.2
          · rcases hb.1 with h | h
            · exact .inl h
            · exact .inr ⟨h.1, by simpa [World.setRow] using h.2⟩
end Go.Proofs.Ytpkgkabcikmopaa
