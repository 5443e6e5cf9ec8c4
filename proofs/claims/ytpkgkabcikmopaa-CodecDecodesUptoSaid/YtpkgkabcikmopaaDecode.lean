/-
  The value of bytes, or an error: what the program's Decode leaves. The conditions: the bytes lie in old memory.
-/
import Derived.Test.YtpkgkabcikmopaaReadP
namespace Go.Proofs.Ytpkgkabcikmopaa
open Go.RowKit

/-! ### plain -/
theorem name_le : ∀ {names : List ByteArray} {s : ByteArray}, s ∈ names → s.size + 1 ≤ nameSum names
  | y :: r, s, h => by
    have ih := name_le (names := r) (s := s)
    simp only [nameSum, List.map_cons, List.sum_cons] at ih ⊢
    rcases List.mem_cons.1 h with e | e
    · subst e; omega
    · have := ih e; omega
theorem mass_le : ∀ {l : List Val} {x : Val}, x ∈ l → x.mass ≤ Val.masses l
  | y :: r, x, h => by
    simp only [Val.masses]
    rcases List.mem_cons.1 h with e | e
    · subst e; omega
    · have := mass_le e; omega
theorem Val.fit_of_at {S : Nat → Prop} {w : World} : ∀ (n : Nat) (v : Val), SizeOf.sizeOf v ≤ n → ∀ cs : List Value, Val.At S w v cs → v.mass < 4294967296 → v.Fit
  | 0, v, h, _, _, _ => by cases v; simp at h
  | n + 1, .mk k bo i t ut ui items names, h, cs, ha, hm => by
    simp only [Val.mass] at hm
    unfold Val.At at ha
    obtain ⟨A, cap, nv, rfl, ⟨_, h2, _, _, _⟩, _, hr, _⟩ := ha
    have hml := Val.masses_length items
    unfold Val.Fit
    refine ⟨h2, by omega, by omega, by omega, by omega, fun s hs => ?_, (Val.fits_iff items).2 fun x hx => ?_⟩
    · have := name_le hs
      omega
    · obtain ⟨j, hj, e⟩ := List.getElem_of_mem hx
      obtain ⟨b, o, _, _, hrow⟩ := hr (by omega)
      obtain ⟨cx, _, _, hxa⟩ := hrow.get (i := j) (x := x) (by rw [List.getElem?_eq_getElem hj, e])
      have hs : SizeOf.sizeOf x ≤ n := by
        have := List.sizeOf_lt_of_mem hx
        simp at h; omega
      refine Val.fit_of_at n x hs cx hxa ?_
      have := mass_le hx
      omega
mutual
theorem Val.can_fit : ∀ v : Val, v.Fit → v.can.2 = 0 → v.can.1.Fit
  | .mk k bo n t ut ui items names, hf, h0 => by
    have hi := Val.cans_fit items
    unfold Val.Fit at hf
    obtain ⟨f1, f2, f3, f4, f5, f6, f7⟩ := hf
    have hz : I64 0 := by constructor <;> omega
    have he : empty.size < 4294967296 := by decide
    simp only [Val.can] at h0 ⊢
    split
    · exact ⟨hz, he, he, he, by simp, by simp, by simp [Val.Fits]⟩
    · rename_i h1
      rw [if_neg h1] at h0
      split
      · exact ⟨f1, he, he, he, by simp, by simp, by simp [Val.Fits]⟩
      · rename_i h2
        rw [if_neg h2] at h0
        split
        · exact ⟨hz, f2, he, he, by simp, by simp, by simp [Val.Fits]⟩
        · rename_i h3
          rw [if_neg h3] at h0
          split
          · exact ⟨hz, he, f3, f4, by simp, by simp, by simp [Val.Fits]⟩
          · rename_i h4
            rw [if_neg h4] at h0
            split
            · rename_i h5
              rw [if_pos h5] at h0
              by_cases hc : (Val.cans items).2 = 0
              · rw [if_neg (by simpa using hc)] at h0 ⊢
                by_cases hl : 4096 < items.length
                · rw [if_pos hl] at h0; simp at h0
                · rw [if_neg hl]
                  have hfs := (Val.fits_iff _).1 (hi f7 hc)
                  refine ⟨hz, he, he, he, ?_, by simp, (Val.fits_iff _).2 fun x hx => hfs x (sortU_mem_of hx)⟩
                  have := sortU_length (c := Val.ord) (Val.cans items).1
                  have := Val.cans_length hc
                  omega
              · rw [if_pos (by simpa using hc)] at h0; exact absurd h0 hc
            · rename_i h5
              rw [if_neg h5] at h0
              split
              · rename_i h6
                rw [if_pos h6] at h0
                by_cases hn : names.length = items.length
                · rw [if_neg (by simpa using hn)] at h0 ⊢
                  by_cases hc : (Val.cans items).2 = 0
                  · rw [if_neg (by simpa using hc)] at h0 ⊢
                    by_cases hl : 4096 < items.length
                    · rw [if_pos hl] at h0; simp at h0
                    · rw [if_neg hl]
                      have hfs := (Val.fits_iff _).1 (hi f7 hc)
                      rcases record_cases names (Val.cans items).1 with ⟨_, e⟩ | ⟨_, e⟩
                      · rw [e]
                        have hlen := sortU_length (c := cmpN) (names.zip (Val.cans items).1)
                        rw [List.length_zip] at hlen
                        refine ⟨hz, he, he, he, by simp; omega, fun s hs => ?_, (Val.fits_iff _).2 fun x hx => ?_⟩
                        · obtain ⟨p, hp, rfl⟩ := List.mem_map.1 hs
                          exact f6 _ (List.of_mem_zip (sortU_mem_of hp)).1
                        · obtain ⟨p, hp, rfl⟩ := List.mem_map.1 hx
                          exact hfs _ (List.of_mem_zip (sortU_mem_of hp)).2
                      · rw [if_neg hl, e] at h0; simp at h0
                  · rw [if_pos (by simpa using hc)] at h0; exact absurd h0 hc
                · rw [if_pos (by simpa using hn)] at h0; simp at h0
              · rename_i h6
                rw [if_neg h6] at h0; simp at h0
theorem Val.cans_fit : ∀ l : List Val, Val.Fits l → (Val.cans l).2 = 0 → Val.Fits (Val.cans l).1
  | [], _, _ => by simp [Val.cans, Val.Fits]
  | v :: r, hf, h0 => by
    unfold Val.Fits at hf
    have h1 := Val.can_fit v hf.1
    have h2 := Val.cans_fit r hf.2
    simp only [Val.cans] at h0 ⊢
    by_cases hv : v.can.2 = 0
    · rw [if_neg (by simpa using hv)] at h0 ⊢
      by_cases hr : (Val.cans r).2 = 0
      · rw [if_neg (by simpa using hr)]
        exact ⟨h1 hv, h2 hr⟩
      · rw [if_pos (by simpa using hr)] at h0; exact absurd h0 hr
    · rw [if_pos (by simpa using hv)] at h0; exact absurd h0 hv
end

/-- a value that may be decoded -/
def Val.Good (c : Val) : Prop := c.Is ∧ c.Fit ∧ c.dep ≤ 50
/-- the value of bytes, or an error -/
def DecIs (bs : List UInt8) (v : Val) (e : Int) : Prop := (65536 < bs.length ∧ v = .zero ∧ e = 12) ∨ (bs.length ≤ 65536 ∧ ((v.Good ∧ v.enc = bs ∧ e = 0) ∨ ((¬ ∃ c : Val, c.Good ∧ c.enc = bs) ∧ v = .zero ∧ e = 10)))
theorem DecIs.unique {bs : List UInt8} {v v' : Val} {e e' : Int} (h : DecIs bs v e) (k : DecIs bs v' e') : v = v' ∧ e = e' := by
  rcases h with ⟨h1, rfl, rfl⟩ | ⟨h1, ⟨h2, h3, rfl⟩ | ⟨h2, rfl, rfl⟩⟩ <;> rcases k with ⟨k1, rfl, rfl⟩ | ⟨k1, ⟨k2, k3, rfl⟩ | ⟨k2, rfl, rfl⟩⟩
  · exact ⟨rfl, rfl⟩
  · omega
  · omega
  · omega
  · have := Val.enc_inj v v' [] [] h2.1 k2.1 h2.2.1 k2.2.1 (by rw [h3, k3])
    exact ⟨this.1, rfl⟩
  · exact absurd ⟨v, h2, h3⟩ k2
  · omega
  · exact absurd ⟨v', k2, k3⟩ h2
  · exact ⟨rfl, rfl⟩
theorem DecIs.good {c : Val} (hc : c.Good) (hl : c.enc.length ≤ 65536) : DecIs c.enc c 0 := .inr ⟨hl, .inl ⟨hc, rfl, rfl⟩⟩
theorem Val.Good.canon {c : Val} (h : c.Good) : c.canon = (c, 0) := by
  unfold Val.canon
  rw [if_neg (by have := h.2.2; omega)]
  exact Val.can_of_is h.1
theorem Val.Good.bytes {c : Val} (h : c.Good) (hl : c.enc.length ≤ 65536) : c.bytes = (c.enc, 0) := by
  unfold Val.bytes
  rw [h.canon]
  simp only [ne_eq, not_true, if_false]
  rw [if_neg (by omega)]
section
variable {bs bs' : List UInt8} {v : Val} {bad' : Bool}
theorem dec_bad (hl : ¬ 65536 < bs.length) (h : Reads bs false 50 v bs' bad') (hb : bad' = true) : DecIs bs .zero 10 := by
  refine .inr ⟨by omega, .inr ⟨?_, rfl, rfl⟩⟩
  rintro ⟨c, hc, rfl⟩
  obtain ⟨_, _, e⟩ := h.2.2.2.2 c [] hc.1 hc.2.1 hc.2.2 (by simp) rfl
  rw [hb] at e; cases e
theorem dec_err (hl : ¬ 65536 < bs.length) (h : Reads bs false 50 v bs' bad') (he : v.bytes.2 ≠ 0) : DecIs bs .zero 10 := by
  refine .inr ⟨by omega, .inr ⟨?_, rfl, rfl⟩⟩
  rintro ⟨c, hc, rfl⟩
  obtain ⟨e, _, _⟩ := h.2.2.2.2 c [] hc.1 hc.2.1 hc.2.2 (by simp) rfl
  subst e
  rw [hc.bytes (by omega)] at he
  exact he rfl
theorem dec_other (hl : ¬ 65536 < bs.length) (h : Reads bs false 50 v bs' bad') (he : v.bytes.1 ≠ bs) : DecIs bs .zero 10 := by
  refine .inr ⟨by omega, .inr ⟨?_, rfl, rfl⟩⟩
  rintro ⟨c, hc, rfl⟩
  obtain ⟨e, _, _⟩ := h.2.2.2.2 c [] hc.1 hc.2.1 hc.2.2 (by simp) rfl
  subst e
  rw [hc.bytes (by omega)] at he
  exact he rfl
theorem dec_same (h : Reads bs false 50 v bs' bad') (hf : v.Fit) (he : v.bytes.2 = 0) (hs : v.bytes.1 = bs) : DecIs bs v 0 := by
  rcases v.bytes_cases with ⟨h1, e⟩ | ⟨_, _, e⟩ | ⟨h1, h2, e⟩
  · rw [e] at he; exact absurd he h1
  · rw [e] at he; simp at he
  · rw [e] at hs
    obtain ⟨c1, c2, c3⟩ := Val.canon_ok h1
    have hg : v.canon.1.Good := ⟨canon_is h1, by rw [c2]; exact Val.can_fit v hf c3, by rw [c2, Val.can_dep c3]; exact c1⟩
    have hs' : v.canon.1.enc = bs := hs
    obtain ⟨e1, _, _⟩ := h.2.2.2.2 v.canon.1 [] hg.1 hg.2.1 hg.2.2 (by rw [hs']; simp) rfl
    have := DecIs.good hg h2
    rwa [hs', ← e1] at this
end

set_option maxRecDepth 100000 in
theorem equal_okB (A1 A2 : Option Addr) (c1 c2 : Nat) (la bs : List UInt8) (w : World) (h1 : SrcAt w A1 la.length (cellsB la)) (h2 : SrcAt w A2 bs.length (cellsB bs)) (hl : la.length ≤ 70368744177664) (hc1 : la.length ≤ c1) (hc2 : bs.length ≤ c2) :
    Calls Try.prog 61 #[.slice A1 la.length c1, .slice A2 bs.length c2] w fun e w' => e = .returned (.bool (decide (la = bs))) ∧ Ext w w' := by
  have H1 := Lib.hid h1
  have H2 := Lib.hid h2
  clear h1 h2
  by_cases hne : la.length = bs.length
  rotate_left 1
  · have ho : decide (la = bs) = false := decide_eq_false fun e => hne (by rw [e])
    rw [ho]
    go_enter Try.func61, Try.ntmps61
    have t0 : ((la.length : Int) != bs.length) = true := by simp; omega
    go_wp2_with fail
    go_ret
    exact ⟨rfl, Ext.refl w⟩
  · obtain ⟨n, hn⟩ : ∃ n, n = la.length := ⟨_, rfl⟩
    rw [← hne, ← hn]
    rw [← hn] at hc1 hl
    rw [← hne, ← hn] at hc2
    have HN1 := Lib.hid hn
    have HN2 := Lib.hid (hn.trans hne)
    clear hne hn
    go_enter Try.func61, Try.ntmps61
    go_wp2_with fail
    go_loopw [13] (fun u wr => ∃ k : Nat, k ≤ n ∧ u = .int .i64 k ∧ Ext w wr ∧ Hid (la.take k = bs.take k)) (fun u _ => n - (intOf u).toNat)
    case atStart => exact ⟨0, Nat.zero_le _, rfl, Ext.refl w, Lib.hid (by simp)⟩
    case round =>
      obtain ⟨k, hk, rfl, hext, HE⟩ := hrel
      have HX := Lib.hid hext
      clear hext
      by_cases hlt : k < n
      · obtain ⟨x, hx⟩ : ∃ x, la[k]? = some x := ⟨_, List.getElem?_eq_getElem (by rw [← HN1.out]; exact hlt)⟩
        obtain ⟨y, hy⟩ : ∃ y, bs[k]? = some y := ⟨_, List.getElem?_eq_getElem (by rw [← HN2.out]; exact hlt)⟩
        obtain ⟨b1, o1, rfl, hk1⟩ := H1.out (by rw [← HN1.out]; omega)
        obtain ⟨b2, o2, rfl, hk2⟩ := H2.out (by rw [← HN2.out]; omega)
        have q1 := hk1 k _ (cellsB_get hx)
        have q2 := hk2 k _ (cellsB_get hy)
        have f0 := cell_regrown ((World.cell?_of_block (a := ⟨b1, o1 + k, none⟩) (HX.out.block b1 (block_lt_of_cell q1))).trans q1)
        have f1 := cell_regrown ((World.cell?_of_block (a := ⟨b2, o2 + k, none⟩) (HX.out.block b2 (block_lt_of_cell q2))).trans q2)
        have Hx := Lib.hid hx
        have Hy := Lib.hid hy
        clear hx hy hk1 hk2 q1 q2
        by_cases hxy : x = y
        · subst hxy
          go_wp2_with fail
          refine region_later (by kernel_rfl) (by kernel_rfl) ?_
          repeat (go_big_quiet_step (fail))
          refine wpQuiet_nil ?_
          intro w3 hw3
          have HX3 := Lib.hid hw3
          clear hw3 f0 f1
          go_wp2_with fail
          go_roundw
          case rel => exact ⟨k + 1, by omega, by go_num, HX.out.trans HX3.out, Lib.hid (by rw [take_succ_of Hx.out, take_succ_of Hy.out, HE.out])⟩
          case measure => simp [intOf]; omega
        · have t0 : ((x.toNat : Int) != y.toNat) = true := by
            simp
            intro e
            exact hxy (UInt8.toNat_inj.1 (by omega))
          have ho : decide (la = bs) = false := decide_eq_false fun e => by
            have h := Hx.out
            rw [e, Hy.out] at h
            injection h with h
            exact hxy h.symm
          have HO := Lib.hid ho
          clear hxy ho
          go_wp2_with fail
          refine region_later (by kernel_rfl) (by kernel_rfl) ?_
          repeat (go_big_quiet_step (fail))
          refine wpQuiet_nil ?_
          intro w3 hw3
          have HX3 := Lib.hid hw3
          clear hw3 f0 f1
          go_wp2_with fail
          rw [HO.out]
          go_ret
          exact ⟨rfl, HX.out.trans HX3.out⟩
      · have hke : k = n := by omega
        subst hke
        have ho : decide (la = bs) = true := decide_eq_true (by
          have h := HE.out
          rw [List.take_of_length_le (by have := HN1.out; omega), List.take_of_length_le (by have := HN2.out; omega)] at h
          exact h)
        have HO := Lib.hid ho
        clear ho
        go_wp2_with fail
        rw [HO.out]
        go_ret
        exact ⟨rfl, HX.out⟩
end Go.Proofs.Ytpkgkabcikmopaa
