/-
  Bytes that are read: what the program's reader does. The conditions: the bytes lie in memory that nothing writes.
-/
import Derived.Test.YtpkgkabcikmopaaEncode
import Derived.Laws.BitsAllLaws
namespace Go.Proofs.Ytpkgkabcikmopaa
open Go.RowKit

/-- bytes that lie in old memory, and not in the reader's block -/
def SrcOff (g lim : Nat) (w : World) (A : Option Addr) (bs : List UInt8) : Prop := 0 < bs.length → ∃ b of, A = some ⟨b, of, none⟩ ∧ b ≠ g ∧ b < lim ∧ CellsAt w b of (cellsB bs)
theorem SrcOff.src {g lim : Nat} {w : World} {A : Option Addr} {bs : List UInt8} (h : SrcOff g lim w A bs) : SrcAt w A bs.length (cellsB bs) := fun h0 => let ⟨b, of, e, _, _, hc⟩ := h h0; ⟨b, of, e, hc⟩
theorem SrcOff.same {g lim : Nat} {w w' : World} {A : Option Addr} {bs : List UInt8} (h : SrcOff g lim w A bs) (k : ∀ b, b < lim → b ≠ g → w'.heap[b]? = w.heap[b]?) : SrcOff g lim w' A bs := fun h0 => by
  obtain ⟨b, of, e, hne, hl, hc⟩ := h h0
  exact ⟨b, of, e, hne, hl, fun j v hj => (World.cell?_of_block (a := ⟨b, of + j, none⟩) (k b hl hne)).trans (hc j v hj)⟩
theorem SrcOff.grown {g lim : Nat} {w w' : World} {A : Option Addr} {bs : List UInt8} (h : SrcOff g lim w A bs) (hl : lim ≤ w.heap.size) (k : GrownBy w w' (some g)) : SrcOff g lim w' A bs :=
  h.same fun b hb hne => k.block b (by omega) (fun e => by injection e with e; exact hne e)
theorem SrcOff.cut {g lim : Nat} {w : World} {A A2 : Option Addr} {bs : List UInt8} {c p : Nat} (h : SrcOff g lim w A bs) (hc : bs.length ≤ c) (k : CutOf A A2 bs.length c p 1) : SrcOff g lim w A2 (bs.drop p) := fun h0 => by
  rw [List.length_drop] at h0
  obtain ⟨b, of, e, hne, hl, hcs⟩ := h (by omega)
  refine ⟨b, of + p, by have := k b of hc (by omega) e; rwa [Nat.mul_one] at this, hne, hl, fun j v hj => ?_⟩
  have h1 := hcs (p + j) v (by
    unfold cellsB at hj ⊢
    rw [List.getElem?_map, List.getElem?_drop] at hj
    rw [List.getElem?_map]; exact hj)
  rwa [← Nat.add_assoc] at h1
theorem SrcOff.front {g lim : Nat} {w : World} {A : Option Addr} {bs : List UInt8} {p : Nat} (h : SrcOff g lim w A bs) : SrcOff g lim w A (bs.take p) := fun h0 => by
  rw [List.length_take] at h0
  obtain ⟨b, of, e, hne, hl, hcs⟩ := h (by omega)
  refine ⟨b, of, e, hne, hl, fun j v hj => hcs j v ?_⟩
  unfold cellsB at hj ⊢
  rw [List.getElem?_map, List.getElem?_take] at hj
  rw [List.getElem?_map]
  split at hj
  · exact hj
  · cases hj

/-- a reader -/
def RdAt (lim : Nat) (w : World) (g : Nat) (bs : List UInt8) (bad : Bool) : Prop := ∃ A c, w.heap[g]? = some (.cells #[.slice A bs.length c, .bool bad] 80 (0, 0)) ∧ bs.length ≤ c ∧ c ≤ 9223372036854775807 ∧ lim ≤ w.heap.size ∧ SrcOff g lim w A bs
theorem RdAt.same {lim : Nat} {w w' : World} {g : Nat} {bs : List UInt8} {bad : Bool} (h : RdAt lim w g bs bad) (hs : w.heap.size ≤ w'.heap.size) (hg : w'.heap[g]? = w.heap[g]?) (k : ∀ b, b < lim → b ≠ g → w'.heap[b]? = w.heap[b]?) : RdAt lim w' g bs bad := by
  obtain ⟨A, c, h1, h2, h3, h4, h5⟩ := h
  exact ⟨A, c, hg.trans h1, h2, h3, Nat.le_trans h4 hs, h5.same k⟩
theorem RdAt.lt {lim : Nat} {w : World} {g : Nat} {bs : List UInt8} {bad : Bool} (h : RdAt lim w g bs bad) : g < w.heap.size := by
  obtain ⟨A, c, h1, _⟩ := h
  exact Blk_lt h1
theorem RdAt.lim {lim : Nat} {w : World} {g : Nat} {bs : List UInt8} {bad : Bool} (h : RdAt lim w g bs bad) : lim ≤ w.heap.size := by
  obtain ⟨A, c, _, _, _, h4, _⟩ := h
  exact h4
theorem RdAt.ext {lim : Nat} {w w' : World} {g : Nat} {bs : List UInt8} {bad : Bool} (h : RdAt lim w g bs bad) (k : Ext w w') : RdAt lim w' g bs bad :=
  h.same k.size (k.block g h.lt) fun b hb _ => k.block b (Nat.lt_of_lt_of_le hb h.lim)
theorem Try.elemB : Try.prog.underlying 47 = some (.slice (Try.prog.elem 47)) := by kernel_rfl
theorem Try.elemBs : ∀ w, (Go.sizeOf (Try.prog.elem 47)).run Try.prog w = .ok 1 w := fun _ => by kernel_rfl
theorem Try.sizeSB : ∀ w, (Go.sizeOf 47).run Try.prog w = .ok 1 w := fun _ => by kernel_rfl

set_option maxRecDepth 100000 in
theorem take_okP (lim g n : Nat) (w : World) (bs : List UInt8) (bad : Bool) (h : RdAt lim w g bs bad) (hn : n ≤ 4294967295) :
    Calls Try.prog 98 #[.pointer (some ⟨g, 0, none⟩), .int .i64 n] w fun e w' => GrownBy w w' (some g) ∧
      ((n ≤ bs.length ∧ ∃ A c, e = .returned (.slice A n c) ∧ SrcOff g lim w' A (bs.take n) ∧ RdAt lim w' g (bs.drop n) bad) ∨ (bs.length < n ∧ e = .returned (.slice none 0 0) ∧ RdAt lim w' g [] true)) := by
  obtain ⟨A, c, hh, hc1, hc2, hlim, hsrc⟩ := h
  have HH := Lib.hid hh
  have HS := Lib.hid hsrc
  have f0 : w.cell? ⟨g, 0, none⟩ = some (.slice A bs.length c) := by rw [cell_of_row _ _ _ _ _ _ hh]; rfl
  have f1 : w.cell? ⟨g, 1, none⟩ = some (.bool bad) := by rw [cell_of_row _ _ _ _ _ _ hh]; rfl
  have z0 : w.frozen? ⟨g, 0, none⟩ = false := frozen_of_row _ _ _ _ _ hh
  have z1 : w.frozen? ⟨g, 1, none⟩ = false := frozen_of_row _ _ _ _ _ hh
  clear hh hsrc
  by_cases hlt : bs.length < n
  · go_enter Try.func98, Try.ntmps98
    have t0 : decide ((bs.length : Int) < n) = true := by simp; omega
    go_wp2_with fail
    go_ret
    refine ⟨(GrownBy.setCell w g 1 _).trans (GrownBy.setCell _ g 0 _), .inr ⟨hlt, rfl, none, 0, ?_, by simp, by omega, Nat.le_trans hlim ((GrownBy.setCell w g 1 _).trans (GrownBy.setCell _ g 0 _)).size, fun h0 => by simp at h0⟩⟩
    rw [heap_setCell_at (heap_setCell_at HH.out 1 _) 0]
    rfl
  · go_enter Try.func98, Try.ntmps98
    have t0 : decide ((bs.length : Int) < n) = false := by simp; omega
    go_wp2_with (first | refine wpList_cut_to rfl 47 (.tmp 22) (.tmp 23) rfl 1 Try.elemB Try.elemBs A bs.length c n rfl rfl (by omega) ?_ | (refine wpList_cut_from rfl 47 (.tmp 29) (.tmp 30) rfl 1 Try.elemB Try.elemBs A bs.length c n rfl rfl (by omega) ?_; intro A2 hcut; have HCut := Lib.hid hcut; clear hcut))
    go_ret
    have hg := GrownBy.setCell w g 0 (.slice A2 (bs.length - n) (c - n))
    refine ⟨hg, .inl ⟨by omega, A, c, rfl, HS.out.front.grown hlim hg, A2, c - n, ?_, by rw [List.length_drop]; omega, by omega, Nat.le_trans hlim hg.size, (HS.out.cut hc1 HCut.out).grown hlim hg⟩⟩
    rw [heap_setCell_at HH.out 0, List.length_drop]
    rfl

/-- a number out of its bytes -/
def beNat (l : List UInt8) : Nat := l.foldl (fun x b => x * 256 + b.toNat) 0
theorem beNat_snoc (l : List UInt8) (b : UInt8) : beNat (l ++ [b]) = beNat l * 256 + b.toNat := by simp [beNat, List.foldl_append]
theorem beNat_from : ∀ (l : List UInt8) (x : Nat), l.foldl (fun x b => x * 256 + b.toNat) x < (x + 1) * 256 ^ l.length
  | [], x => by simp
  | b :: r, x => by
    rw [List.foldl_cons, List.length_cons, Nat.pow_succ]
    refine Nat.lt_of_lt_of_le (beNat_from r (x * 256 + b.toNat)) ?_
    have hb := b.toNat_lt
    rw [Nat.mul_comm (256 ^ r.length) 256, ← Nat.mul_assoc]
    exact Nat.mul_le_mul_right _ (by omega)
theorem beNat_lt (l : List UInt8) : beNat l < 256 ^ l.length := by simpa [beNat] using beNat_from l 0
theorem shl8_or (y b : Nat) (hy : y < 72057594037927936) (hb : b < 256) : bits .or .u64 (IntKind.u64.wrap ((y : Int) * 256)) (b : Int) = ((y * 256 + b : Nat) : Int) := by
  have e : IntKind.u64.wrap ((y : Int) * 256) = ((y * 256 : Nat) : Int) := by
    simp [IntKind.wrap, IntKind.signed, IntKind.bits]
    omega
  rw [e, u64_or_nat _ _ (by omega) (by omega)]
  congr 1
  rw [show y * 256 = y * 2 ^ 8 by rfl, ← Nat.shiftLeft_eq, Nat.shiftLeft_add_eq_or_of_lt hb]

set_option maxRecDepth 100000 in
theorem number_okP (lim g n : Nat) (w : World) (bs : List UInt8) (bad : Bool) (h : RdAt lim w g bs bad) (hn : n ≤ 8) :
    Calls Try.prog 87 #[.pointer (some ⟨g, 0, none⟩), .int .i64 n] w fun e w' => GrownBy w w' (some g) ∧
      ((n ≤ bs.length ∧ e = .returned (.int .u64 (beNat (bs.take n))) ∧ RdAt lim w' g (bs.drop n) bad) ∨ (bs.length < n ∧ e = .returned (.int .u64 0) ∧ RdAt lim w' g [] true)) := by
  have H := Lib.hid h
  clear h
  go_enter Try.func87, Try.ntmps87
  go_wp2_with fail
  refine (take_okP lim g n w bs bad H.out (by omega)).mono ?_
  rintro e w1 ⟨hg, ⟨hle, A, c, rfl, hsrc, hrd⟩ | ⟨hlt, rfl, hrd⟩⟩
  · have HG := Lib.hid hg
    have HSrc := Lib.hid hsrc
    have HRd := Lib.hid hrd
    have htl : (bs.take n).length = n := by rw [List.length_take]; omega
    have HTl := Lib.hid htl
    clear hg hsrc hrd htl
    go_wp2_with fail
    go_loopw [5, 12] (fun u5 u12 wr => ∃ k : Nat, k ≤ n ∧ u12 = .int .i64 k ∧ (∃ y : Nat, u5 = .int .u64 y ∧ y < 256 ^ k ∧ Hid (y = beNat (bs.take k))) ∧ wr = w1) (fun _ u12 _ => n - (intOf u12).toNat)
    case atStart => exact ⟨0, Nat.zero_le _, rfl, ⟨0, rfl, by simp, Lib.hid (by simp [beNat])⟩, rfl⟩
    case round =>
      obtain ⟨k, hk, rfl, ⟨y, rfl, hy, HY⟩, rfl⟩ := hrel
      by_cases hlt : k < n
      · obtain ⟨b, hb⟩ : ∃ b, bs[k]? = some b := ⟨_, List.getElem?_eq_getElem (by omega)⟩
        obtain ⟨bb, of, rfl, _, _, hc⟩ := HSrc.out (by rw [HTl.out]; omega)
        have f0 : wr.cell? ⟨bb, of + k, none⟩ = some (.int .u8 b.toNat) := hc k _ (cellsB_get (by rw [List.getElem?_take, if_pos hlt]; exact hb))
        have hbl := b.toNat_lt
        have HB := Lib.hid hb
        have hy2 : y < 72057594037927936 := Nat.lt_of_lt_of_le hy (Nat.pow_le_pow_right (by omega) (show k ≤ 7 by omega))
        have hw := shl8_or y b.toNat hy2 hbl
        clear hc hb hy2
        go_wp2_with fail
        go_roundw
        case rel =>
          refine ⟨k + 1, by omega, by go_num, ⟨y * 256 + b.toNat, by simp, by rw [Nat.pow_succ]; omega, Lib.hid ?_⟩, trivial⟩
          rw [take_succ_of HB.out, beNat_snoc, HY.out]
        case measure => simp [intOf]; omega
      · have hke : k = n := by omega
        subst hke
        have HYY := Lib.hid HY.out
        clear HY
        go_wp2_with fail
        go_ret
        exact ⟨HG.out, .inl ⟨hle, by rw [HYY.out]; rfl, HRd.out⟩⟩
  · have HG := Lib.hid hg
    have HRd := Lib.hid hrd
    clear hg hrd
    go_wp2_with fail
    go_loopw [5, 12] (fun u5 u12 wr => u12 = .int .i64 0 ∧ u5 = .int .u64 0 ∧ wr = w1) (fun _ _ _ => 0)
    case atStart => exact ⟨rfl, rfl, rfl⟩
    case round =>
      obtain ⟨rfl, rfl, rfl⟩ := hrel
      go_wp2_with fail
      go_ret
      exact ⟨HG.out, .inr ⟨hlt, rfl, HRd.out⟩⟩

theorem beNat_be4 {n : Nat} (h : n < 4294967296) : beNat (be4 n) = n := by
  simp [beNat, be4]
  omega
theorem beNat_be8 {n : Nat} (h : n < 18446744073709551616) : beNat (be8 n) = n := by
  simp [beNat, be8]
  omega

set_option maxRecDepth 100000 in
theorem text_okRd (lim g : Nat) (w : World) (bs : List UInt8) (bad : Bool) (h : RdAt lim w g bs bad) (hl : bs.length ≤ 65536) :
    Calls Try.prog 88 #[.pointer (some ⟨g, 0, none⟩)] w fun e w' => GrownBy w w' (some g) ∧
      ∃ (s : ByteArray) (bs' : List UInt8) (bad' : Bool), e = .returned (.string s) ∧ RdAt lim w' g bs' bad' ∧ (bad = true → bad' = true) ∧ bs'.length ≤ bs.length ∧ s.size ≤ bs.length ∧ (bad' = false → bs'.length + 4 + s.size = bs.length) ∧
        ∀ (t : ByteArray) (rest : List UInt8), t.size < 4294967296 → bs = txt t ++ rest → bad = false → s = t ∧ bs' = rest ∧ bad' = false := by
  have H := Lib.hid h
  clear h
  go_enter Try.func88, Try.ntmps88
  go_wp2_with fail
  refine (number_okP lim g 4 w bs bad H.out (by omega)).mono ?_
  rintro e w1 ⟨hg, ⟨hle, rfl, hrd⟩ | ⟨hlt, rfl, hrd⟩⟩
  · have hn : beNat (bs.take 4) < 4294967296 := by
      have := beNat_lt (bs.take 4)
      rw [List.length_take, Nat.min_eq_left hle] at this
      exact this
    obtain ⟨n, hne⟩ : ∃ n, n = beNat (bs.take 4) := ⟨_, rfl⟩
    rw [← hne] at hn ⊢
    have HNe := Lib.hid hne
    have HG := Lib.hid hg
    have HRd := Lib.hid hrd
    clear hg hrd hne
    go_wp2_with fail
    refine (take_okP lim g n w1 (bs.drop 4) bad HRd.out (by omega)).mono ?_
    rintro e w2 ⟨hg2, ⟨hle2, A, c, rfl, hsrc, hrd2⟩ | ⟨hlt2, rfl, hrd2⟩⟩
    · have HG2 := Lib.hid (HG.out.trans hg2)
      have HSrc := Lib.hid hsrc.src
      have HRd2 := Lib.hid hrd2
      have hlen : ((bs.drop 4).take n).length = n := by rw [List.length_take]; omega
      have HLen := Lib.hid hlen
      rw [List.length_drop] at hle2
      clear hg2 hsrc hrd2 hlen
      go_wp2_with (refine wpList_str rfl (.tmp 7) rfl A c ((bs.drop 4).take n) (by rw [HLen.out]; rfl) HSrc.out ?_)
      go_ret
      refine ⟨HG2.out, strOf ((bs.drop 4).take n), (bs.drop 4).drop n, bad, rfl, HRd2.out, fun h => h, by simp only [List.length_drop]; omega, by rw [strOf_size, HLen.out]; omega, fun _ => by rw [strOf_size, HLen.out]; simp only [List.length_drop]; omega, ?_⟩
      rintro t rest ht rfl rfl
      have e4 : (txt t ++ rest).take 4 = be4 t.size := by unfold txt; rw [List.append_assoc]; exact List.take_left' rfl
      have d4 : (txt t ++ rest).drop 4 = t.data.toList ++ rest := by unfold txt; rw [List.append_assoc]; exact List.drop_left' rfl
      have hnt : n = t.size := by rw [HNe.out, e4, beNat_be4 ht]
      have hts : t.data.toList.length = t.size := by rw [Array.length_toList]; rfl
      rw [d4, hnt, ← hts, List.take_left, List.drop_left]
      exact ⟨rfl, rfl, rfl⟩
    · have HG2 := Lib.hid (HG.out.trans hg2)
      have HRd2 := Lib.hid hrd2
      clear hg2 hrd2
      go_wp2_with (refine wpList_str rfl (.tmp 7) rfl none 0 [] rfl (fun h => by simp at h) ?_)
      go_ret
      refine ⟨HG2.out, strOf [], [], true, rfl, HRd2.out, fun _ => rfl, by simp, by rw [strOf_size]; simp, (fun h => by cases h), ?_⟩
      rintro t rest ht rfl rfl
      exfalso
      have e4 : (txt t ++ rest).take 4 = be4 t.size := by unfold txt; rw [List.append_assoc]; exact List.take_left' rfl
      have hnt : n = t.size := by rw [HNe.out, e4, beNat_be4 ht]
      rw [List.length_drop, List.length_append, txt_length] at hlt2
      omega
  · have HG := Lib.hid hg
    have HRd := Lib.hid hrd
    clear hg hrd
    go_wp2_with fail
    refine (take_okP lim g 0 w1 [] true HRd.out (by omega)).mono ?_
    rintro e w2 ⟨hg2, ⟨hle2, A, c, rfl, hsrc, hrd2⟩ | ⟨hlt2, rfl, hrd2⟩⟩
    · have HG2 := Lib.hid (HG.out.trans hg2)
      have HSrc := Lib.hid hsrc.src
      have HRd2 := Lib.hid hrd2
      clear hg2 hsrc hrd2
      go_wp2_with (refine wpList_str rfl (.tmp 7) rfl A c [] rfl (fun h => by simp at h) ?_)
      go_ret
      refine ⟨HG2.out, strOf [], [], true, rfl, HRd2.out, fun _ => rfl, by simp, by rw [strOf_size]; simp, (fun h => by cases h), ?_⟩
      rintro t rest ht rfl rfl
      exfalso
      rw [List.length_append, txt_length] at hlt
      omega
    · simp at hlt2
end Go.Proofs.Ytpkgkabcikmopaa
