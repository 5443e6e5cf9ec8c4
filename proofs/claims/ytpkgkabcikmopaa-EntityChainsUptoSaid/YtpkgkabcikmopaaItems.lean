/-
  What the program's canon of a row of values comes to. The conditions: the contract of canon for its members.
-/
import Derived.Test.YtpkgkabcikmopaaOwn
namespace Go.Proofs.Ytpkgkabcikmopaa
open Go.RowKit

/-- a value in new memory, and an error -/
def ValErr (x : Val) (er : Int) (w : World) (e : Ending) (w' : World) : Prop := ∃ cs : List Value, e = .returned (.tuple #[.agg cs.toArray, .int .i64 er]) ∧ Val.At (Fresh w.heap.size w') w' x cs ∧ Ext w w'
/-- a row of values in new memory, and an error -/
def RowErr (l : List Val) (er : Int) (w : World) (e : Ending) (w' : World) : Prop :=
  ∃ v, e = .returned (.tuple #[v, .int .i64 er]) ∧ (∃ xs, w'.ownsRow w.heap.size 27 8 v l.length xs ∧ Flat (Made w.heap.size w' v) w' l xs) ∧ Ext w w'

def Val.itemsOf (l : List Val) : List Val × Int := if (Val.cans l).2 ≠ 0 then ([], (Val.cans l).2) else if 4096 < l.length then ([], 12) else ((Val.cans l).1, 0)

theorem Val.cans_snoc {x : Val} (h0 : x.can.2 = 0) : ∀ {l ys : List Val}, Val.cans l = (ys, 0) → Val.cans (l ++ [x]) = (ys ++ [x.can.1], 0)
  | [], ys, h => by simp [Val.cans] at h; subst h; simp [Val.cans, h0]
  | y :: r, ys, h => by
    simp only [Val.cans] at h
    split at h
    · rename_i h1; simp at h; exact absurd h.2 h1
    · split at h
      · rename_i h1; simp at h; exact absurd h.2 h1
      · rename_i h1 h2
        simp at h1 h2 h
        subst h
        have := Val.cans_snoc h0 (l := r) (ys := (Val.cans r).1) (by rw [← h2])
        simp [Val.cans, h1, this]
theorem Val.cans_bad {x : Val} (h0 : x.can.2 ≠ 0) : ∀ {l r ys : List Val}, Val.cans l = (ys, 0) → Val.cans (l ++ x :: r) = ([], x.can.2)
  | [], _, _, _ => by simp [Val.cans, h0]
  | y :: l, r, ys, h => by
    simp only [Val.cans] at h
    split at h
    · rename_i h1; simp at h; exact absurd h.2 h1
    · split at h
      · rename_i h1; simp at h; exact absurd h.2 h1
      · rename_i h1 h2
        simp at h1 h2
        have := Val.cans_bad h0 (l := l) (r := r) (ys := (Val.cans l).1) (by rw [← h2])
        simp [Val.cans, h1, this, h0]
theorem Val.cans_length : ∀ {l : List Val}, (Val.cans l).2 = 0 → (Val.cans l).1.length = l.length
  | [], _ => rfl
  | y :: r, h => by
    simp only [Val.cans] at h ⊢
    split at h
    · rename_i h1; exact absurd h h1
    · split at h
      · rename_i h1; exact absurd h h1
      · rename_i h1 h2
        simp at h2
        rw [if_neg h1, if_neg (by simpa using h2)]
        simp [Val.cans_length h2]
theorem take_succ_of {α : Type} {l : List α} {k : Nat} {x : α} (h : l[k]? = some x) : l.take (k + 1) = l.take k ++ [x] := by
  obtain ⟨h1, rfl⟩ := List.getElem?_eq_some_iff.1 h
  exact List.take_succ_eq_append_getElem h1
theorem take_drop_of {α : Type} {l : List α} {k : Nat} {x : α} (h : l[k]? = some x) : l.take k ++ x :: l.drop (k + 1) = l := by
  obtain ⟨h1, rfl⟩ := List.getElem?_eq_some_iff.1 h
  rw [← List.drop_eq_getElem_cons h1, List.take_append_drop]

theorem Try.info27 : (Try.prog.info? 27).map (fun i => (i.zero, i.size, i.bytes)) = some (some (.agg zeroCells.toArray), 8, 120) := by kernel_rfl

set_option maxRecDepth 100000 in
set_option maxHeartbeats 800000 in
theorem items_ok (S : Nat → Prop) (l : List Val) (v : Value) (w : World) (hS : ∀ b, S b → b < w.heap.size) (hl : ValsAt S w l v)
    (hc : ∀ x ∈ l, ∀ (w1 : World) (cx : List Value), (∀ b, S b → b < w1.heap.size) → Val.At S w1 x cx → Calls Try.prog 39 #[.agg cx.toArray] w1 (ValErr x.can.1 x.can.2 w1)) :
    Calls Try.prog 75 #[v] w (RowErr (Val.itemsOf l).1 (Val.itemsOf l).2 w) := by
  obtain ⟨A, cap, rfl, ⟨hl0, hl1, hl2⟩, hlr⟩ := hl
  rw [LIM_eq] at hl0
  rw [maxLen_eq] at hl2
  have HS := Lib.hid hS
  have HC := Lib.hid hc
  have HL := Lib.hid hlr
  have hi0 := Lib.hid (show Val.itemsOf l = if (Val.cans l).2 ≠ 0 then ([], (Val.cans l).2) else if 4096 < l.length then ([], 12) else ((Val.cans l).1, 0) from rfl)
  generalize Val.itemsOf l = res at *
  clear hS hc hlr
  obtain ⟨i0, hi, hz0, hz1, hz2⟩ := info_parts Try.info27
  go_enter Try.func75, Try.ntmps75
  go_wp2_with fail
  go_loopw [4, 11] (fun u i wr => ∃ k : Nat, k ≤ l.length ∧ i = .int .i64 k ∧ Ext w wr ∧ Hid (∃ ys xs, Val.cans (l.take k) = (ys, 0) ∧ wr.ownsRow w.heap.size 27 8 u ys.length xs ∧ Flat (Made w.heap.size wr u) wr ys xs)) (fun _ i _ => l.length - (intOf i).toNat)
  case atStart => exact ⟨0, Nat.zero_le _, rfl, Ext.refl w, [], [], by simp [Val.cans], World.ownsRow_nil _ _ _ _, rfl⟩
  case round =>
    obtain ⟨k, hk, rfl, hext, Hown⟩ := hrel
    have HX := Lib.hid hext
    have HSr := Lib.hid (show ∀ b, S b → b < wr.heap.size from fun b hb => Nat.lt_of_lt_of_le (HS.out b hb) hext.size)
    clear hext
    by_cases hlt : k < l.length
    · obtain ⟨b, o, rfl, hSb, hrow⟩ := HL.out (by omega)
      obtain ⟨x, hx⟩ : ∃ x, l[k]? = some x := ⟨_, List.getElem?_eq_getElem hlt⟩
      obtain ⟨cs, hcl, hca, hxa⟩ := hrow.get hx
      have Hca := Lib.hid (hca.alike hSb (Alike.of_ext HX.out HS.out))
      have Hxa := Lib.hid (hxa.alike (Alike.of_ext HX.out HS.out))
      have Hx := Lib.hid hx
      clear hx hxa hca hrow hcl hSb
      obtain ⟨k1, b1, n1, t1, ut1, ui1, A1, l1, c1, A2, l2, c2, rfl⟩ := Hxa.out.shape
      go_wp2_with (refine wpList_load_cells rfl 27 _ rfl b (o + k * 8) rfl Try.agg27 Try.size27 rfl Hca.out ?_)
      refine (HC.out x (List.mem_of_getElem? Hx.out) _ [_, _, _, _, _, _, _, _] (fun b hb => Nat.lt_of_lt_of_le (HSr.out b hb) ((Ext.refl _).alloc _).size) (Hxa.out.alike (Alike.of_ext ((Ext.refl _).alloc _) HSr.out))).mono ?_
      rintro e w1 ⟨ys, rfl, hy, hx1⟩
      have Hy := Lib.hid hy
      have HX1 := Lib.hid hx1
      clear hy hx1
      obtain ⟨k3, b3, n3, t3, ut3, ui3, A3, l3, c3, A4, l4, c4, rfl⟩ := Hy.out.shape
      by_cases he : x.can.2 = 0
      · have e0 : (x.can.2 != 0) = false := by simpa using he
        have He := Lib.hid he
        clear he
        obtain ⟨ys0, xs, hcans, hown, hflat⟩ := Hown.out
        have Hc := Lib.hid hcans
        have Ho := Lib.hid hown
        have Hf := Lib.hid hflat
        have hlen : ys0.length = k := by
          have h1 := Val.cans_length (l := l.take k) (by rw [hcans])
          rw [hcans] at h1
          simpa [List.length_take, Nat.min_eq_left hk] using h1
        have hbd : ys0.length + 1 ≤ 1073741824 := by omega
        have Hle := Lib.hid hlen
        clear hcans hown hflat hlen Hown
        go_wp2_with (at_builtin; refine wpList_append_at rfl (.tmp 23) (.tmp 25) 24 rfl w.heap.size 27 i0 (.agg zeroCells.toArray) 8 120 Try.underlying24 hi hz0 hz1 hz2 rfl (by decide) _ ys0.length xs rfl (ownsRow_ext Ho.out ((((Ext.refl wr).alloc _).trans HX1.out).alloc _ |>.alloc _)) (w1.heap.size + 1) 0 1 1 [.int .i64 k3, .bool b3, .int .i64 n3, .string t3, .string ut3, .string ui3, .slice A3 l3 c3, .slice A4 l4 c4] rfl rfl (cellsAt_new _ _ (by simp)) Hy.out.one (by rw [maxLen_eq]; omega) (by omega) (((HX.out.alloc _).trans HX1.out).alloc _ |>.alloc _).size ?_)
        intro v' w2 hown' hgrow hblk
        have Ho' := Lib.hid hown'
        have Hg := Lib.hid hgrow
        have Hb := Lib.hid hblk
        clear hown' hgrow hblk
        go_wp2_with fail
        go_roundw
        case rel =>
          refine ⟨k + 1, by omega, by go_num, ext_grown (((HX.out.alloc _).trans HX1.out).alloc _ |>.alloc _) (ownsRow_ext Ho.out ((((Ext.refl wr).alloc _).trans HX1.out).alloc _ |>.alloc _)) Hg.out, ys0 ++ [x.can.1], _, ?_, by rw [List.length_append]; exact Ho'.out, ?_⟩
          · rw [take_succ_of Hx.out]; exact Val.cans_snoc He.out Hc.out
          · exact flat_step Ho.out Hf.out (((Ext.refl wr).alloc _).trans HX1.out) (((Ext.refl w1).alloc _).alloc _) (by simp) HX.out.size Hy.out Hg.out (by simpa using Hb.out)
        case measure => simp [intOf]; omega
      · have e0 : (x.can.2 != 0) = true := by simpa using he
        have He := Lib.hid he
        clear he
        go_wp2_with fail
        go_ret2
        obtain ⟨ys0, xs, hcans, _, _⟩ := Hown.out
        have hbad : Val.cans l = ([], x.can.2) := by
          have := Val.cans_bad He.out (r := l.drop (k + 1)) hcans
          rwa [take_drop_of Hx.out] at this
        have hr : res = ([], x.can.2) := by rw [hi0.out, hbad, if_pos He.out]
        rw [hr]
        exact ⟨_, rfl, ⟨[], World.ownsRow_nil _ _ _ _, rfl⟩, ((HX.out.alloc _).trans HX1.out).alloc _⟩
    · have hke : k = l.length := by omega
      subst hke
      obtain ⟨ys0, xs, hcans, hown, hflat⟩ := Hown.out
      rw [List.take_length] at hcans
      have Hc := Lib.hid hcans
      have Ho := Lib.hid hown
      have Hf := Lib.hid hflat
      clear hcans hown hflat Hown
      by_cases hlg : 4096 < l.length
      · go_wp2_with fail
        go_ret2
        have hr : res = ([], 12) := by rw [hi0.out, Hc.out]; simp [hlg]
        rw [hr]
        exact ⟨_, rfl, ⟨[], World.ownsRow_nil _ _ _ _, rfl⟩, HX.out⟩
      · go_wp2_with fail
        go_ret2
        have hr : res = (ys0, 0) := by rw [hi0.out, Hc.out]; simp [hlg]
        rw [hr]
        exact ⟨_, rfl, ⟨xs, Ho.out, Hf.out⟩, HX.out⟩

end Go.Proofs.Ytpkgkabcikmopaa
