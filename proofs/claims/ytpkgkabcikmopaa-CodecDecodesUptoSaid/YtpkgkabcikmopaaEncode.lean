/-
  A value's bytes, or an error: what the program's Encode and the document's leave. The conditions: the value's depth and mass are bounded.
-/
import Derived.Test.YtpkgkabcikmopaaPutR
import Derived.Test.YtpkgkabcikmopaaCanon
import Derived.Test.YtpkgkabcikmopaaLawsP
namespace Go.Proofs.Ytpkgkabcikmopaa
open Go.RowKit

/-- a value's bytes, or an error -/
def Val.bytes (v : Val) : List UInt8 × Int := if v.canon.2 ≠ 0 then ([], v.canon.2) else if 65536 < v.canon.1.enc.length then ([], 12) else (v.canon.1.enc, 0)
/-- bytes in new memory, and an error -/
def BytesErr (bs : List UInt8) (er : Int) (w : World) (e : Ending) (w' : World) : Prop := ∃ o', e = .returned (.tuple #[o', .int .i64 er]) ∧ ByteRow w.heap.size w' o' bs ∧ Ext w w'
theorem Val.bytes_cases (v : Val) : (v.canon.2 ≠ 0 ∧ v.bytes = ([], v.canon.2)) ∨ (v.canon.2 = 0 ∧ 65536 < v.canon.1.enc.length ∧ v.bytes = ([], 12)) ∨ (v.canon.2 = 0 ∧ v.canon.1.enc.length ≤ 65536 ∧ v.bytes = (v.canon.1.enc, 0)) := by
  unfold Val.bytes
  by_cases h : v.canon.2 = 0
  · by_cases h2 : 65536 < v.canon.1.enc.length
    · exact .inr (.inl ⟨h, h2, by simp [h, h2]⟩)
    · exact .inr (.inr ⟨h, by omega, by simp [h, h2]⟩)
  · exact .inl ⟨h, by simp [h]⟩
theorem Val.bytes_len (v : Val) : v.bytes.1.length ≤ 65536 := by
  rcases v.bytes_cases with ⟨_, e⟩ | ⟨_, _, e⟩ | ⟨_, h, e⟩ <;> rw [e]
  · simp
  · simp
  · exact h

set_option maxRecDepth 100000 in
theorem encode_okP (v : Val) (S : Nat → Prop) (w : World) (cs : List Value) (hd : v.dep ≤ 1000000) (hm : 17 * v.mass ≤ 35184372088832) (hS : ∀ b, S b → b < w.heap.size) (h : Val.At S w v cs) :
    Calls Try.prog 32 #[.agg cs.toArray] w (BytesErr v.bytes.1 v.bytes.2 w) := by
  obtain ⟨r0, r1, r2, r3, r4, r5, r6, r7, r8, r9, ra, rb, rfl⟩ := h.shape
  have HS := Lib.hid hS
  have H := Lib.hid h
  have HD := Lib.hid hd
  obtain ⟨⟨rc, re⟩, hrc⟩ : ∃ r, r = v.canon := ⟨_, rfl⟩
  have hb := v.bytes_cases
  have hcm := v.canon_mass
  have hci := canon_is (v := v)
  rw [← hrc] at hb hcm hci
  simp only at hb hcm hci
  generalize v.bytes = out at *
  have HB := Lib.hid hb
  have HRc := Lib.hid hrc
  have HCi := Lib.hid hci
  clear hS h hd hrc hb hci
  go_enter Try.func32, Try.ntmps32
  go_wp2_with fail
  have hc := canon_okP v S (w.alloc (.cells #[.int .i64 r0, .bool r1, .int .i64 r2, .string r3, .string r4, .string r5, .slice r6 r7 r8, .slice r9 ra rb] 27)) [.int .i64 r0, .bool r1, .int .i64 r2, .string r3, .string r4, .string r5, .slice r6 r7 r8, .slice r9 ra rb] HD.out (fun b hb => Nat.lt_of_lt_of_le (HS.out b hb) ((Ext.refl w).alloc _).size) (H.out.alike (Alike.of_ext ((Ext.refl w).alloc _) HS.out))
  rw [← HRc.out] at hc
  refine hc.mono ?_
  clear hc
  rintro e w1 ⟨cs, rfl, hat, hx⟩
  obtain ⟨p0, p1, p2, p3, p4, p5, p6, p7, p8, p9, pa, pb, rfl⟩ := hat.shape
  have V := Lib.hid ((InW.of hat fun b hb => hb.2).ext ((Ext.refl w1).alloc (.cells #[.int .i64 p0, .bool p1, .int .i64 p2, .string p3, .string p4, .string p5, .slice p6 p7 p8, .slice p9 pa pb] 27)))
  have X := Lib.hid (BoxAt.new w1 27 [.int .i64 p0, .bool p1, .int .i64 p2, .string p3, .string p4, .string p5, .slice p6 p7 p8, .slice p9 pa pb])
  have HX := Lib.hid (((((Ext.refl w).alloc _).trans hx)).alloc (.cells #[.int .i64 p0, .bool p1, .int .i64 p2, .string p3, .string p4, .string p5, .slice p6 p7 p8, .slice p9 pa pb] 27))
  clear hx hat
  by_cases he : re = 0
  rotate_left 1
  · have t0 : (re != 0) = true := by simpa using he
    have ho : out = ([], re) := by
      rcases HB.out with ⟨_, e⟩ | ⟨h, _⟩ | ⟨h, _⟩
      · exact e
      · exact absurd h he
      · exact absurd h he
    subst ho
    clear he
    go_wp2_with fail
    exact bodyPost_ret (v := .tuple #[.slice none 0 0, .int .i64 re]) (by simp [results, Try.results32, go_sem]) rfl ⟨_, rfl, ByteRow.nil _ _, HX.out⟩
  · have HI := Lib.hid (HCi.out he)
    subst he
    go_wp2_with (refine wpList_load_cells rfl 27 (.tmp 4) rfl w1.heap.size 0 rfl Try.agg27 Try.size27 rfl X.out.2 ?_)
    refine (putP_ok _ rc (Nat.le_refl _) HI.out (fun b => b < (w1.alloc (.cells #[.int .i64 p0, .bool p1, .int .i64 p2, .string p3, .string p4, .string p5, .slice p6 p7 p8, .slice p9 pa pb] 27)).heap.size) w.heap.size _ (.slice none 0 0) [] [.int .i64 p0, .bool p1, .int .i64 p2, .string p3, .string p4, .string p5, .slice p6 p7 p8, .slice p9 pa pb] (ByteRow.nil _ _) HX.out.size (fun b hb => ⟨hb, fun e => by cases e⟩) V.out (by simp only [List.length_nil]; omega)).mono ?_
    rintro e w2 ⟨o2, rfl, hrow, hput⟩
    rw [List.nil_append] at hrow
    obtain ⟨A2, c2, rfl, _, hc1, hc2⟩ := hrow.shape
    have HRow := Lib.hid hrow
    have HX2 := Lib.hid (HX.out.trans hput.ext)
    rw [maxLen_eq] at hc2
    clear hrow hput
    obtain ⟨n, hn⟩ : ∃ n, n = rc.enc.length := ⟨_, rfl⟩
    rw [← hn] at hc1 ⊢
    have HN := Lib.hid hn
    clear hn
    by_cases hl : 65536 < n
    · have t0 : decide ((65536 : Int) < n) = true := by simp; omega
      have ho : out = ([], 12) := by
        rcases HB.out with ⟨h, _⟩ | ⟨_, _, e⟩ | ⟨_, h, _⟩
        · exact absurd rfl h
        · exact e
        · have := HN.out; omega
      subst ho
      clear hl
      go_wp2_with fail
      exact bodyPost_ret (v := .tuple #[.slice none 0 0, .int .i64 12]) (by simp [results, Try.results32, go_sem]) rfl ⟨_, rfl, ByteRow.nil _ _, HX2.out⟩
    · have t0 : decide ((65536 : Int) < n) = false := by simp; omega
      have ho : out = (rc.enc, 0) := by
        rcases HB.out with ⟨h, _⟩ | ⟨_, h, _⟩ | ⟨_, _, e⟩
        · exact absurd rfl h
        · have := HN.out; omega
        · exact e
      subst ho
      clear hl
      go_wp2_with fail
      exact bodyPost_ret (v := .tuple #[.slice A2 n c2, .int .i64 0]) (by simp [results, Try.results32, go_sem]) rfl ⟨_, rfl, by rw [HN.out]; exact HRow.out, HX2.out⟩
set_option maxRecDepth 100000 in
theorem encode_okR (v : Val) (S : Nat → Prop) (w : World) (cs : List Value) (hd : v.dep ≤ 1000000) (hm : 17 * v.mass ≤ 35184372088832) (hS : ∀ b, S b → b < w.heap.size) (h : Val.At S w v cs) :
    Calls Try.prog 33 #[.agg cs.toArray] w (BytesErr v.bytes.1 v.bytes.2 w) := by
  obtain ⟨r0, r1, r2, r3, r4, r5, r6, r7, r8, r9, ra, rb, rfl⟩ := h.shape
  have HS := Lib.hid hS
  have H := Lib.hid h
  have HD := Lib.hid hd
  obtain ⟨⟨rc, re⟩, hrc⟩ : ∃ r, r = v.canon := ⟨_, rfl⟩
  have hb := v.bytes_cases
  have hcm := v.canon_mass
  have hci := canon_is (v := v)
  rw [← hrc] at hb hcm hci
  simp only at hb hcm hci
  generalize v.bytes = out at *
  have HB := Lib.hid hb
  have HRc := Lib.hid hrc
  have HCi := Lib.hid hci
  clear hS h hd hrc hb hci
  go_enter Try.func33, Try.ntmps33
  go_wp2_with fail
  have hc := canon_okR v S (w.alloc (.cells #[.int .i64 r0, .bool r1, .int .i64 r2, .string r3, .string r4, .string r5, .slice r6 r7 r8, .slice r9 ra rb] 27)) [.int .i64 r0, .bool r1, .int .i64 r2, .string r3, .string r4, .string r5, .slice r6 r7 r8, .slice r9 ra rb] HD.out (fun b hb => Nat.lt_of_lt_of_le (HS.out b hb) ((Ext.refl w).alloc _).size) (H.out.alike (Alike.of_ext ((Ext.refl w).alloc _) HS.out))
  rw [← HRc.out] at hc
  refine hc.mono ?_
  clear hc
  rintro e w1 ⟨cs, rfl, hat, hx⟩
  obtain ⟨p0, p1, p2, p3, p4, p5, p6, p7, p8, p9, pa, pb, rfl⟩ := hat.shape
  have V := Lib.hid ((InW.of hat fun b hb => hb.2).ext ((Ext.refl w1).alloc (.cells #[.int .i64 p0, .bool p1, .int .i64 p2, .string p3, .string p4, .string p5, .slice p6 p7 p8, .slice p9 pa pb] 27)))
  have X := Lib.hid (BoxAt.new w1 27 [.int .i64 p0, .bool p1, .int .i64 p2, .string p3, .string p4, .string p5, .slice p6 p7 p8, .slice p9 pa pb])
  have HX := Lib.hid (((((Ext.refl w).alloc _).trans hx)).alloc (.cells #[.int .i64 p0, .bool p1, .int .i64 p2, .string p3, .string p4, .string p5, .slice p6 p7 p8, .slice p9 pa pb] 27))
  clear hx hat
  by_cases he : re = 0
  rotate_left 1
  · have t0 : (re != 0) = true := by simpa using he
    have ho : out = ([], re) := by
      rcases HB.out with ⟨_, e⟩ | ⟨h, _⟩ | ⟨h, _⟩
      · exact e
      · exact absurd h he
      · exact absurd h he
    subst ho
    clear he
    go_wp2_with fail
    exact bodyPost_ret (v := .tuple #[.slice none 0 0, .int .i64 re]) (by simp [results, Try.results33, go_sem]) rfl ⟨_, rfl, ByteRow.nil _ _, HX.out⟩
  · have HI := Lib.hid (HCi.out he)
    subst he
    go_wp2_with (refine wpList_load_cells rfl 27 (.tmp 4) rfl w1.heap.size 0 rfl Try.agg27 Try.size27 rfl X.out.2 ?_)
    refine (putR_ok _ rc (Nat.le_refl _) HI.out (fun b => b < (w1.alloc (.cells #[.int .i64 p0, .bool p1, .int .i64 p2, .string p3, .string p4, .string p5, .slice p6 p7 p8, .slice p9 pa pb] 27)).heap.size) w.heap.size _ (.slice none 0 0) [] [.int .i64 p0, .bool p1, .int .i64 p2, .string p3, .string p4, .string p5, .slice p6 p7 p8, .slice p9 pa pb] (ByteRow.nil _ _) HX.out.size (fun b hb => ⟨hb, fun e => by cases e⟩) V.out (by simp only [List.length_nil]; omega)).mono ?_
    rintro e w2 ⟨o2, rfl, hrow, hput⟩
    rw [List.nil_append] at hrow
    obtain ⟨A2, c2, rfl, _, hc1, hc2⟩ := hrow.shape
    have HRow := Lib.hid hrow
    have HX2 := Lib.hid (HX.out.trans hput.ext)
    rw [maxLen_eq] at hc2
    clear hrow hput
    obtain ⟨n, hn⟩ : ∃ n, n = rc.enc.length := ⟨_, rfl⟩
    rw [← hn] at hc1 ⊢
    have HN := Lib.hid hn
    clear hn
    by_cases hl : 65536 < n
    · have t0 : decide ((65536 : Int) < n) = true := by simp; omega
      have ho : out = ([], 12) := by
        rcases HB.out with ⟨h, _⟩ | ⟨_, _, e⟩ | ⟨_, h, _⟩
        · exact absurd rfl h
        · exact e
        · have := HN.out; omega
      subst ho
      clear hl
      go_wp2_with fail
      exact bodyPost_ret (v := .tuple #[.slice none 0 0, .int .i64 12]) (by simp [results, Try.results33, go_sem]) rfl ⟨_, rfl, ByteRow.nil _ _, HX2.out⟩
    · have t0 : decide ((65536 : Int) < n) = false := by simp; omega
      have ho : out = (rc.enc, 0) := by
        rcases HB.out with ⟨h, _⟩ | ⟨_, h, _⟩ | ⟨_, _, e⟩
        · exact absurd rfl h
        · have := HN.out; omega
        · exact e
      subst ho
      clear hl
      go_wp2_with fail
      exact bodyPost_ret (v := .tuple #[.slice A2 n c2, .int .i64 0]) (by simp [results, Try.results33, go_sem]) rfl ⟨_, rfl, by rw [HN.out]; exact HRow.out, HX2.out⟩
end Go.Proofs.Ytpkgkabcikmopaa
