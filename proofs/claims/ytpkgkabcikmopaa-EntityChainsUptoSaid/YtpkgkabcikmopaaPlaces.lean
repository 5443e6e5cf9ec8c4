/-
  What the program's places come to: a map from names to where they stand first. The conditions: the entities lie in memory as they should.
-/
import Derived.Test.YtpkgkabcikmopaaEntR
namespace Go.Proofs.Ytpkgkabcikmopaa
open Go.RowKit

theorem ext_apart {w w1 w2 : World} {r : Option Nat} (h : Ext w w1) (k : GrownBy w1 w2 r) (hr : ∀ b, r = some b → w.heap.size ≤ b) : Ext w w2 :=
  ⟨⟨k.os.trans h.os, k.tape.trans h.tape, k.output.trans h.output, Nat.le_trans h.size k.size, fun i hi => (k.block i (Nat.lt_of_lt_of_le hi h.size) (fun e => by have := hr i e.symm; omega)).trans (h.block i hi)⟩, Nat.le_trans h.drawn k.drawn⟩

theorem idx_take_full {us : List Uid} {k : Nat} (h : us.length ≤ k) (y : Uid) : idx (us.take k) y = idx us y := by rw [List.take_of_length_le h]

set_option maxRecDepth 100000 in
set_option maxHeartbeats 800000 in
theorem places_ok (S : Nat → Prop) (l : List Ent) (v : Value) (w : World) (hS : ∀ b, S b → b < w.heap.size) (hl : entR.RowsAt S w l v) (hlen : l.length ≤ 1048576) :
    Calls Try.prog 64 #[v] w fun e w' => ∃ b, e = .returned (.map (some b)) ∧ MapU w' b (idx (l.map Ent.uid)) (dis (l.map Ent.uid) l.length) ∧ w.heap.size ≤ b ∧ Ext w w' := by
  obtain ⟨A, cap, rfl, ⟨hl0, hl1, hl2⟩, hlr⟩ := hl
  rw [LIM_eq] at hl0
  rw [maxLen_eq] at hl2
  have HS := Lib.hid hS
  have HL := Lib.hid hlr
  clear hS hlr
  have hmm := @run_makeMap Try.prog
  go_enter Try.func64, Try.ntmps64
  go_wp2_with fail
  have M0 := Lib.hid (MapU.made w)
  have X0 := Lib.hid ((Ext.refl w).alloc (.map #[] 0))
  go_loopw [11] (fun i wr => ∃ k : Nat, k ≤ l.length ∧ i = .int .i64 k ∧ Hid (Ext w wr) ∧ Hid (MapU wr w.heap.size (idx ((l.map Ent.uid).take k)) (dis (l.map Ent.uid) k))) (fun i _ => l.length - (intOf i).toNat)
  case atStart => exact ⟨0, Nat.zero_le _, rfl, X0, Lib.hid (M0.out.congr fun u => rfl)⟩
  case round =>
    obtain ⟨k, hk, rfl, HX, HM⟩ := hrel
    clear M0 X0
    by_cases hlt : k < l.length
    · obtain ⟨b, o, rfl, hSb, hrow⟩ := HL.out (by omega)
      obtain ⟨x, hx⟩ : ∃ x, l[k]? = some x := ⟨_, List.getElem?_eq_getElem hlt⟩
      obtain ⟨cs, hca, hxa⟩ := hrow k x hx
      have Hca := Lib.hid (hca.alike hSb (Alike.of_ext HX.out HS.out))
      have Hx := Lib.hid (show (l.map Ent.uid)[k]? = some x.uid by simp [hx])
      have Hu := Lib.hid (show FitU x.uid by obtain ⟨_, _, _, h, _⟩ := hxa; exact h)
      have Hm := Lib.hid (fun y => idx_take_succ (us := l.map Ent.uid) (y := y) Hx.out)
      have Hd := Lib.hid (dis_succ Hx.out)
      obtain ⟨A1, l1, c1, q1, q2, q3, q4, q5, q6, A2, l2, c2, A3, l3, c3, rfl⟩ := ent_shape hxa
      clear hx hxa hca hrow hSb
      cases hi : idx ((l.map Ent.uid).take k) x.uid with
      | some j =>
        have Hi := Lib.hid hi
        clear hi
        go_wp2_with (first | refine wpList_load_cells rfl 60 _ rfl b (o + k * 11) rfl Try.agg60 Try.size60 rfl Hca.out ?_ | (at_lookup; refine wpList_lookup_uid rfl _ _ rfl w.heap.size _ _ rfl (HM.out.ext ((Ext.refl wr).alloc _)) x.uid Hu.out rfl true (by rw [Hi.out]; rfl) ?_; intro c hc hcl; clear hc))
        have hrel : MapU (wr.alloc (.cells #[.string x.uid.1, .string x.uid.2, .slice A1 l1 c1, .int .i64 q1, .bool q2, .int .i64 q3, .string q4, .string q5, .string q6, .slice A2 l2 c2, .slice A3 l3 c3] 60)) w.heap.size (idx ((l.map Ent.uid).take (k + 1))) (dis (l.map Ent.uid) (k + 1)) := by
          rw [Hd.out, Hi.out]
          refine (HM.out.ext ((Ext.refl wr).alloc _)).congr fun y => ?_
          rw [Hm.out y]
          cases hy : idx ((l.map Ent.uid).take k) y with
          | some i => rfl
          | none => rw [if_neg (by simp), if_neg fun e => by rw [e, Hi.out] at hy; cases hy]
        go_roundw
        case rel => exact ⟨k + 1, by omega, by go_num, Lib.hid (HX.out.alloc _), Lib.hid hrel⟩
        case measure => simp [intOf]; omega
      | none =>
        have Hi := Lib.hid hi
        have hdl := dis_le (l.map Ent.uid) k
        clear hi
        go_wp2_with (first | refine wpList_load_cells rfl 60 _ rfl b (o + k * 11) rfl Try.agg60 Try.size60 rfl Hca.out ?_ | (at_lookup; refine wpList_lookup_uid rfl _ _ rfl w.heap.size _ _ rfl (HM.out.ext ((Ext.refl wr).alloc _)) x.uid Hu.out rfl false (by rw [Hi.out]; rfl) ?_; intro c hc hcl; clear hc) | (at_mapUpdate; refine wpList_update_uid rfl _ _ _ rfl w.heap.size _ _ rfl (HM.out.ext ((Ext.refl wr).alloc _)) (by omega) x.uid Hu.out rfl k (by omega) rfl ?_; intro w2 hm2 hg2))
        have hrel : MapU w2 w.heap.size (idx ((l.map Ent.uid).take (k + 1))) (dis (l.map Ent.uid) (k + 1)) := by
          rw [Hd.out]
          refine hm2.congr fun y => ?_
          rw [Hm.out y]
          by_cases hy : y = x.uid
          · subst hy
            rw [if_pos rfl, Hi.out]; simp
          · rw [if_neg hy, if_neg hy]
            cases hz : idx ((l.map Ent.uid).take k) y <;> simp
        have hext := ext_apart (HX.out.alloc _) hg2 (fun b e => by injection e with e; omega)
        go_roundw
        case rel => exact ⟨k + 1, by omega, by go_num, Lib.hid hext, Lib.hid hrel⟩
        case measure => simp [intOf]; omega
    · have hke : k = l.length := by omega
      subst hke
      have hfull := HM.out.congr (fun y => idx_take_full (us := l.map Ent.uid) (by simp) y)
      have HF := Lib.hid hfull
      clear hfull
      go_wp2_with fail
      go_ret
      exact ⟨_, rfl, HF.out, Nat.le_refl _, HX.out⟩
end Go.Proofs.Ytpkgkabcikmopaa
