/-
  Layer 4's examples: its laws' awake answers true. The conditions: none.
-/
import Derived.Test.YtpkgkabcikmopaaDecodeP
namespace Go.Proofs.Ytpkgkabcikmopaa
open Go.RowKit

theorem awake4_b : (Val.mk 3 false 0 ⟨#[97]⟩ empty empty [] []).bytes = ([3, 0, 0, 0, 1, 97], 0) := by kernel_rfl
theorem awake4_g : DecIs [1, 1] (Val.mk 1 true 0 empty empty empty [] []) 0 := by
  refine .inr ⟨by simp, .inl ⟨⟨?_, ?_, ?_⟩, by rw [Val.enc_1]; rfl, rfl⟩⟩
  · unfold Val.Is; exact .inl ⟨rfl, rfl, rfl, rfl, rfl, rfl, rfl⟩
  · unfold Val.Fit; exact ⟨⟨by omega, by omega⟩, by decide, by decide, by decide, by simp, by simp, by simp [Val.Fits]⟩
  · simp [Val.dep]
theorem awake4_n : DecIs [1, 2] .zero 10 := by
  refine .inr ⟨by simp, .inr ⟨?_, rfl, rfl⟩⟩
  rintro ⟨c, hc, he⟩
  obtain ⟨b, tl, e, hk, _, _⟩ := hc.1.head
  rw [he] at e
  injection e with e1 e2
  subst e1
  rcases hc.1.cases with ⟨bo, rfl⟩ | ⟨_, rfl⟩ | ⟨_, rfl⟩ | ⟨_, _, rfl⟩ | ⟨_, rfl, _⟩ | ⟨_, _, rfl, _⟩ <;> simp [Val.kind] at hk
  rw [Val.enc_1] at he
  cases bo <;> simp at he
theorem bytesNew (w : World) (bs : List UInt8) {cs : Array Value} (h : cs = (cellsB bs).toArray) {n g : Nat} (hn : bs.length = n) (hl : n ≤ 1048576) (hg : g = w.heap.size) : BytesIn (w.alloc (.cells cs 5)) (.slice (some ⟨g, 0, none⟩) n n) bs := by
  subst hn h hg
  exact ⟨_, _, rfl, Nat.le_refl _, by omega, fun _ => ⟨w.heap.size, 0, rfl, by simp, cellsAt_new _ _ rfl⟩⟩

set_option maxRecDepth 100000 in
set_option maxHeartbeats 1600000 in
theorem awake4_ok (w : World) : Calls Try.prog 29 #[] w fun e w' => e = .returned (.bool true) ∧ Ext w w' := by
  go_enter Try.func29, Try.ntmps29
  go_wp2_with fail
  have he := encode_okP (Val.mk 3 false 0 ⟨#[97]⟩ empty empty [] []) (fun _ => False) w [.int .i64 3, .bool false, .int .i64 0, .string ⟨#[97]⟩, .string ByteArray.empty, .string ByteArray.empty, .slice none 0 0, .slice none 0 0] (by simp [Val.dep]) (by simp [Val.mass, Val.masses, nameSum, empty]; decide) (fun _ h => h.elim)
    (Val.plain_at _ _ _ _ _ _ _ _ (by constructor <;> omega) (by constructor <;> omega) (by rw [maxLen_eq]; decide) empty_le empty_le)
  rw [awake4_b] at he
  refine he.mono ?_
  clear he
  rintro e w1 ⟨o1, rfl, hrow, hx⟩
  obtain ⟨A1, c1, rfl, hsrc, _, _⟩ := hrow.shape
  have HSrc := Lib.hid hsrc
  have HX1 := Lib.hid hx
  have HRow := Lib.hid hrow
  clear hrow hsrc hx
  go_wp2_with fail
  refine (decode_okP [1, 1] _ _ (bytesNew w1 [1, 1] (by rfl) rfl (by simp) rfl) (by simp)).mono ?_
  rintro e w2 ⟨v, er, cs, rfl, hd, hat, hx⟩
  obtain ⟨rfl, rfl⟩ := hd.unique awake4_g
  unfold Val.At at hat
  unfold empty at hat
  obtain ⟨A2, c2, nv, rfl, _, _, _, A3, c3, rfl, _⟩ := hat
  have HX2 := Lib.hid ((((Ext.refl w1).alloc _).trans hx).alloc (.cells #[.int .i64 1, .bool true, .int .i64 0, .string ByteArray.empty, .string ByteArray.empty, .string ByteArray.empty, .slice A2 0 c2, .slice A3 0 c3] 27))
  have hbx := BoxAt.new w2 27 [.int .i64 1, .bool true, .int .i64 0, .string ByteArray.empty, .string ByteArray.empty, .string ByteArray.empty, .slice A2 0 c2, .slice A3 0 c3]
  have HBx := Lib.hid hbx
  clear hd hx hbx
  go_wp2_with fail
  refine (decode_okP [1, 2] _ _ (bytesNew _ [1, 2] (by rfl) rfl (by simp) (by simp)) (by simp)).mono ?_
  rintro e w3 ⟨v, er, cs, rfl, hd, hat, hx⟩
  obtain ⟨rfl, rfl⟩ := hd.unique awake4_n
  obtain ⟨k1, b1, n1, t1, ut1, ui1, A4, l4, c4, A5, l5, c5, rfl⟩ := hat.shape
  have hx3 := (((Ext.refl _).alloc _).trans hx).alloc (.cells #[.int .i64 k1, .bool b1, .int .i64 n1, .string t1, .string ut1, .string ui1, .slice A4 l4 c4, .slice A5 l5 c5] 27)
  obtain ⟨d0, d1, d2, d3, d4, d5, d6, d7⟩ := (HBx.out.ext hx3).cells
  have HX4 := Lib.hid (HX1.out.trans (HX2.out.trans hx3))
  have HSrc4 : Hid (SrcAt _ A1 6 (cellsB [3, 0, 0, 0, 1, 97])) := Lib.hid fun h0 => by
    obtain ⟨b, of, e, hc⟩ := HSrc.out (by simp)
    exact ⟨b, of, e, fun j v hj => (World.cell?_of_block (a := ⟨b, of + j, none⟩) ((HX2.out.trans hx3).block b (block_lt_of_cell (hc j v hj)))).trans (hc j v hj)⟩
  clear hd hat hx hx3 d2 d3 d4 d5 d6 d7
  go_wp2_with (refine wpList_str rfl (.tmp 22) rfl A1 c1 [3, 0, 0, 0, 1, 97] rfl HSrc4.out ?_; rw [show strOf [3, 0, 0, 0, 1, 97] = ⟨#[3, 0, 0, 0, 1, 97]⟩ from rfl])
  go_ret
  exact ⟨by simp, HX4.out⟩
end Go.Proofs.Ytpkgkabcikmopaa
