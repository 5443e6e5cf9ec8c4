/-
  What the program's Round comes to: whether some are above themselves. The conditions: the entities lie in memory as they should, no name is there twice.
-/
import Derived.Test.YtpkgkabcikmopaaKahn
namespace Go.Proofs.Ytpkgkabcikmopaa
open Go.RowKit

theorem filterMap_some {α β : Type} {g : α → Option β} {x : α} {y : β} {l : List α} (h : g x = some y) : (x :: l).filterMap g = y :: l.filterMap g := by simp [h]
theorem filterMap_none {α β : Type} {g : α → Option β} {x : α} {l : List α} (h : g x = none) : (x :: l).filterMap g = l.filterMap g := by simp [h]
theorem drop_of_get {α : Type} {l : List α} {k : Nat} {x : α} (h : l[k]? = some x) : l.drop k = x :: l.drop (k + 1) := by
  obtain ⟨h1, rfl⟩ := List.getElem?_eq_some_iff.1 h
  exact List.drop_eq_getElem_cons h1

set_option maxRecDepth 100000 in
set_option maxHeartbeats 800000 in
/-- each parent that is there is told -/
theorem each_ok (us : List Uid) (S : Nat → Prop) (x : Ent) (cs : List Value) (g : FuncId) (cb : Array Value) (eg : ∀ args w, (callFunc g args).run Try.prog w = .ok (.enter g args) w) (I : List Nat → World → Prop) (bA B n : Nat) (w0 : World)
    (hI : I (x.ps.filterMap (idx us)) w0) (hst : ∀ rest w1, I rest w1 → OneBox w1 bA (.map (some B)) 87 ∧ MapU w1 B (idx us) n ∧ Alike S w0 w1) (hext : ∀ rest w1 w2, I rest w1 → Ext w1 w2 → I rest w2)
    (hdo : ∀ k rest w1, k < us.length → I (k :: rest) w1 → Calls Try.prog g (#[.int .i64 k] ++ cb) w1 fun e w' => e = .returned (.tuple #[]) ∧ I rest w') (hx : entR.At S w0 x cs) :
    Calls Try.prog 72 #[.agg cs.toArray, .func (.func g) #[] cb, .pointer (some ⟨bA, 0, none⟩)] w0 fun e w' => e = .returned (.tuple #[]) ∧ I [] w' := by
  obtain ⟨pv, acs, rfl, hfu, ⟨A, cap, rfl, ⟨hl0, hl1, hl2⟩, hlr⟩, hat⟩ := hx
  obtain ⟨q1, q2, q3, q4, q5, q6, A2, l2, c2, A3, l3, c3, rfl⟩ := hat.shape
  rw [LIM_eq] at hl0
  rw [maxLen_eq] at hl2
  have HI := Lib.hid (hext _ _ _ hI ((Ext.refl w0).alloc (.cells #[.string x.uid.1, .string x.uid.2, .slice A x.ps.length cap, .int .i64 q1, .bool q2, .int .i64 q3, .string q4, .string q5, .string q6, .slice A2 l2 c2, .slice A3 l3 c3] 60)))
  have HST := Lib.hid hst
  have HE := Lib.hid hext
  have HD := Lib.hid hdo
  have HL := Lib.hid hlr
  clear hI hst hext hdo hlr hat hfu
  go_enter Try.func72, Try.ntmps72
  go_wp2_with fail
  go_loopw [12] (fun i wr => ∃ k : Nat, k ≤ x.ps.length ∧ i = .int .i64 k ∧ Hid (I ((x.ps.drop k).filterMap (idx us)) wr)) (fun i _ => x.ps.length - (intOf i).toNat)
  case atStart => exact ⟨0, Nat.zero_le _, rfl, HI⟩
  case round =>
    obtain ⟨k, hk, rfl, HR⟩ := hrel
    clear HI
    by_cases hlt : k < x.ps.length
    · obtain ⟨b, o, rfl, hSb, hrow⟩ := HL.out (by omega)
      obtain ⟨u, hu⟩ : ∃ u, x.ps[k]? = some u := ⟨_, List.getElem?_eq_getElem hlt⟩
      obtain ⟨s1, s2, s3⟩ := HST.out _ _ HR.out
      obtain ⟨cs, hca, rfl, hfit⟩ := hrow k u hu
      have Hca := Lib.hid (hca.alike hSb s3)
      have Hu := Lib.hid hu
      have Hf := Lib.hid hfit
      have HB := Lib.hid s1
      have HM := Lib.hid s2
      have HW := Lib.hid (((Ext.refl wr).alloc (.cells #[.string u.1, .string u.2] 23)))
      clear hu hca hfit hrow s1 s2 s3 hSb
      cases hj : idx us u with
      | some j =>
        have Hj := Lib.hid hj
        have hjl := idx_lt hj
        have hpx := Lib.hid (show (x.ps.drop k).filterMap (idx us) = j :: (x.ps.drop (k + 1)).filterMap (idx us) by rw [drop_of_get Hu.out, filterMap_some hj])
        have c0 := (HB.out.block (HW.out.block _ (Blk_lt HB.out))).cell
        clear hj
        have HN := Lib.hid (show I (j :: (x.ps.drop (k + 1)).filterMap (idx us)) (wr.alloc (.cells #[.string u.1, .string u.2] 23)) from HE.out _ _ _ (hpx.out ▸ HR.out) HW.out)
        go_wp2_with (first | refine wpList_load_cells rfl 23 _ rfl b (o + k * 2) rfl Try.agg23 Try.size23 rfl Hca.out ?_ | (at_lookup; refine wpList_lookup_uid rfl _ _ rfl B _ _ rfl (HM.out.ext HW.out) u Hf.out rfl true (by rw [Hj.out]; rfl) ?_; intro c hc hcl; obtain rfl := hc j Hj.out; clear hc) | (go_at_fn g; refine (HD.out _ _ _ hjl HN.out).mono ?_; rintro e w2 ⟨rfl, hi2⟩; have HI2 := Lib.hid hi2; clear hi2))
        go_roundw
        case rel => exact ⟨k + 1, by omega, by go_num, HI2⟩
        case measure => simp [intOf]; omega
      | none =>
        have Hj := Lib.hid hj
        have hpx := Lib.hid (show (x.ps.drop k).filterMap (idx us) = (x.ps.drop (k + 1)).filterMap (idx us) by rw [drop_of_get Hu.out, filterMap_none hj])
        have c0 := (HB.out.block (HW.out.block _ (Blk_lt HB.out))).cell
        clear hj
        have HN := Lib.hid (show I ((x.ps.drop (k + 1)).filterMap (idx us)) (wr.alloc (.cells #[.string u.1, .string u.2] 23)) from HE.out _ _ _ (hpx.out ▸ HR.out) HW.out)
        go_wp2_with (first | refine wpList_load_cells rfl 23 _ rfl b (o + k * 2) rfl Try.agg23 Try.size23 rfl Hca.out ?_ | (at_lookup; refine wpList_lookup_uid rfl _ _ rfl B _ _ rfl (HM.out.ext HW.out) u Hf.out rfl false (by rw [Hj.out]; rfl) ?_; intro c hc hcl; clear hc))
        go_roundw
        case rel => exact ⟨k + 1, by omega, by go_num, HN⟩
        case measure => simp [intOf]; omega
    · have hke : k = x.ps.length := by omega
      subst hke
      have HN := Lib.hid (show I [] wr by have := HR.out; rwa [List.drop_length] at this)
      go_wp2_with fail
      go_end0
      exact ⟨rfl, HN.out⟩
end Go.Proofs.Ytpkgkabcikmopaa
