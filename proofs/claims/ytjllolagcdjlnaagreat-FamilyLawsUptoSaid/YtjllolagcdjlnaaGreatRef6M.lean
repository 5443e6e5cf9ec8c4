/-
  The reference's answer to what is above a name. The conditions: the entities lie in memory as they should, are few, no name is there twice.
-/
import Derived.Test.YtjllolagcdjlnaaGreatAboveFM
import Derived.Test.YtjllolagcdjlnaaGreatGh
namespace Go.Proofs.YtjllolagcdjlnaaGreat
open Go.RowKit

theorem above_found {c : List Ent} (hn : (c.map Ent.uid).Nodup) {a b : Nat} {u q : Uid} {t : Nat → Nat → Bool} (hs : Snd (EdgeN c) c.length t) (hc : Cpl (EdgeN c) c.length c.length t) (ha : (c.map Ent.uid)[a]? = some u) (hb : (c.map Ent.uid)[b]? = some q) : t a b = true ↔ UpTo c u q := by
  have h1 := (List.getElem?_eq_some_iff.1 ha).1
  have h2 := (List.getElem?_eq_some_iff.1 hb).1
  rw [full_iff hs hc (by simpa using h1) (by simpa using h2), upTo_via hn ha hb]
/-- the names above, of the first ones -/
structure UpAcc (c : List Ent) (u : Uid) (i : Nat) (acc : List Uid) : Prop where
  strict : Strict ordU acc
  mem : ∀ q, q ∈ acc ↔ ∃ j, j < i ∧ (c.map Ent.uid)[j]? = some q ∧ UpTo c u q
  len : acc.length ≤ i
theorem UpAcc.start {c : List Ent} {u : Uid} : UpAcc c u 0 [] := ⟨List.Pairwise.nil, fun q => by simp, by simp⟩
theorem UpAcc.no {c : List Ent} {u : Uid} {i : Nat} {acc : List Uid} {x : Ent} (h : UpAcc c u i acc) (hx : c[i]? = some x) (hn : ¬ UpTo c u x.uid) : UpAcc c u (i + 1) acc := by
  refine ⟨h.strict, fun q => ?_, by have := h.len; omega⟩
  rw [h.mem q]
  constructor
  · rintro ⟨j, hj, h1, h2⟩; exact ⟨j, by omega, h1, h2⟩
  · rintro ⟨j, hj, h1, h2⟩
    by_cases he : j = i
    · subst he
      rw [List.getElem?_map, hx] at h1
      obtain rfl := Option.some.inj h1
      exact absurd h2 hn
    · exact ⟨j, by omega, h1, h2⟩
theorem ins_mem_iff {acc : List Uid} {x q : Uid} : q ∈ ins ordU x acc ↔ q ∈ acc ∨ q = x := by
  constructor
  · intro h
    rcases mem_ins h with h | h
    · exact .inr h
    · exact .inl h
  · rintro (h | rfl)
    · exact mem_ins_old h
    · rcases mem_ins_new (c := ordU) (x := q) (l := acc) with h | ⟨z, hz, h0⟩
      · exact h
      · have := ordU_eq h0
        subst this; exact mem_ins_old hz
theorem ins_length_le {α : Type} {c : α → α → Int} {x : α} : ∀ {l : List α}, (ins c x l).length ≤ l.length + 1
  | [] => by simp [ins]
  | y :: r => by
    have := ins_length_le (c := c) (x := x) (l := r)
    simp only [ins]
    split <;> (try split) <;> simp <;> omega
theorem UpAcc.yes {c : List Ent} {u : Uid} {i : Nat} {acc : List Uid} {x : Ent} (h : UpAcc c u i acc) (hx : c[i]? = some x) (hn : UpTo c u x.uid) : UpAcc c u (i + 1) (putU x.uid false acc) := by
  rw [putU_ins h.strict]
  refine ⟨ins_strict GoodAt.ordU h.strict, fun q => ?_, by have h1 := h.len; have h2 := ins_length_le (c := ordU) (x := x.uid) (l := acc); omega⟩
  rw [ins_mem_iff, h.mem q]
  constructor
  · rintro (⟨j, hj, h1, h2⟩ | rfl)
    · exact ⟨j, by omega, h1, h2⟩
    · exact ⟨i, by omega, by rw [List.getElem?_map, hx]; rfl, hn⟩
  · rintro ⟨j, hj, h1, h2⟩
    by_cases he : j = i
    · subst he
      rw [List.getElem?_map, hx] at h1
      exact .inr (Option.some.inj h1).symm
    · exact .inl ⟨j, by omega, h1, h2⟩
theorem UpAcc.all {c : List Ent} {u : Uid} {acc : List Uid} (h : UpAcc c u c.length acc) (q : Uid) : q ∈ acc ↔ UpTo c u q := by
  rw [h.mem q]
  refine ⟨fun ⟨_, _, _, h⟩ => h, fun hq => ?_⟩
  obtain ⟨j, hj⟩ := List.mem_iff_getElem?.1 hq.names.2
  exact ⟨j, by have := (List.getElem?_eq_some_iff.1 hj).1; simpa using this, hj, hq⟩

set_option maxRecDepth 100000 in
set_option maxHeartbeats 1600000 in
theorem above6_ok (S : Nat → Prop) (l : List Ent) (v : Value) (u : Uid) (w : World) (hS : ∀ b, S b → b < w.heap.size) (hl : entR.RowsAt S w l v) (h20 : l.length ≤ 1000) (hn : (l.map Ent.uid).Nodup) :
    Calls Tryz.prog 27 #[v, valU u] w (AbovePost l u w) := by
  have hl' := hl
  have hfit := ents_fit hl
  obtain ⟨A, cap, rfl, ⟨hl0, hl1, hl2⟩, hlr⟩ := hl
  clear hl0
  rw [maxLen_eq] at hl2
  obtain ⟨nn, hnn⟩ : ∃ nn, l.length * l.length = nn := ⟨_, rfl⟩
  have hnn2 : nn ≤ 1000 * 1000 := by rw [← hnn]; exact Nat.mul_le_mul h20 h20
  have HS := Lib.hid hS
  have HL := Lib.hid hlr
  have HL' := Lib.hid hl'
  have HN := Lib.hid hn
  have Hnn := Lib.hid hnn
  have HFit := Lib.hid hfit
  clear hS hlr hl' hnn hn hfit
  obtain ⟨t, i⟩ := u
  unfold valU
  go_enter Tryz.func27, Tryz.ntmps27
  go_wp2_with fail
  obtain ⟨w0, hw0⟩ : ∃ w0, w0 = w.alloc (.cells #[.string t, .string i] 31) := ⟨_, rfl⟩
  have HX0 : Hid (Ext w w0) := Lib.hid (hw0 ▸ (Ext.refl w).alloc _)
  rw [← hw0]
  clear hw0
  refine (find5_ok S l _ (t, i) w0 (fun b hb => Nat.lt_of_lt_of_le (HS.out b hb) HX0.out.size) (HL'.out.alike (Alike.of_ext HX0.out HS.out))).mono ?_
  rintro e w1 ⟨rfl, hx1⟩
  have HX1 := Lib.hid (HX0.out.trans hx1)
  clear hx1
  cases hi : idx (l.map Ent.uid) (t, i) with
  | none =>
    have Hi := Lib.hid hi
    rw [findI_none hi]
    clear hi
    go_wp2_with fail
    go_ret
    refine ⟨_, [], rfl, Rep.RowsAt.nil _ _, List.Pairwise.nil, fun q => ⟨fun h => (nomatch h), fun h => absurd h.names.1 (idx_none.1 Hi.out)⟩, HX1.out⟩
  | some a =>
    have Hi := Lib.hid hi
    rw [findI_some hi]
    have hal : a < l.length := by have := idx_lt hi; simpa using this
    clear hi
    have hA := above5_ok S l _ w1 (fun b hb => Nat.lt_of_lt_of_le (HS.out b hb) HX1.out.size) (HL'.out.alike (Alike.of_ext HX1.out HS.out)) h20
    simp only [Hnn.out] at hA
    have HA := Lib.hid hA
    clear hA
    go_wp2_with fail
    refine HA.out.mono ?_
    rintro e w2 ⟨g, rfl, hg, hF, hx2⟩
    have HF := Lib.hid hF
    have HX2 := Lib.hid (HX1.out.trans hx2)
    clear hF hx2 HA hg
    go_wp2_with fail
    go_loopw [5, 8] (fun out i' wr => ∃ (k : Nat) (acc : List Uid), k ≤ l.length ∧ i' = .int .i64 k ∧ Hid (uidR.RowsAt (fun b => b < wr.heap.size) wr acc out) ∧ Hid (UpAcc l (t, i) k acc) ∧ Hid (Ext w2 wr)) (fun _ i' _ => l.length - (intOf i').toNat)
    case atStart => exact ⟨0, [], Nat.zero_le _, rfl, Lib.hid (Rep.RowsAt.nil _ _), Lib.hid UpAcc.start, Lib.hid (Ext.refl _)⟩
    case round =>
      obtain ⟨k, acc, hk, rfl, HO, HAc, HX⟩ := hrel
      by_cases hlt : k < l.length
      · obtain ⟨b, o, rfl, hSb, hrow⟩ := HL.out (by omega)
        obtain ⟨x, hx⟩ : ∃ x, l[k]? = some x := ⟨_, List.getElem?_eq_getElem hlt⟩
        obtain ⟨cs, hca, hxa⟩ := hrow k x hx
        obtain ⟨k0, k1, _⟩ := ent_cells hca hxa
        have HXw := Lib.hid (HX2.out.trans HX.out)
        have c0 : wr.cell? ⟨b, o + k * 11, none⟩ = some (.string x.uid.1) := HXw.out.cell k0
        have c1 : wr.cell? ⟨b, o + k * 11 + 1, none⟩ = some (.string x.uid.2) := HXw.out.cell k1
        have Hx := Lib.hid hx
        have HFx := Lib.hid (HFit.out x (List.mem_of_getElem? hx))
        obtain ⟨m, hm⟩ : ∃ m, a * l.length = m := ⟨_, rfl⟩
        have hmp : m + k < nn := by rw [← hm, ← Hnn.out]; exact sq_lt hal hlt
        have e1 : (a : Int) * (l.length : Int) = (m : Int) := by rw [← hm]; simp
        have q1 : ((m : Int) + (k : Int)).toNat = m + k := by omega
        obtain ⟨tt, ht, hs, hc⟩ := HF.out
        have d1 := (ht.ext HX.out).cell hal hlt
        rw [hm] at d1
        have HIff := Lib.hid (above_found HN.out (u := (t, i)) (q := x.uid) hs hc (idx_get Hi.out) (by rw [List.getElem?_map, hx]; rfl))
        have Hlt := Lib.hid hlt
        generalize tt a k = tb at *
        clear ht hs hc hm hx hca hxa hrow k0 k1
        cases tb with
        | true =>
          go_wp2_with fail
          refine (put5_ok (fun b => b < wr.heap.size) acc _ x.uid wr (fun _ h => h) HO.out HFx.out (by have := HAc.out.len; omega)).mono ?_
          rintro e w3 ⟨v3, rfl, ho3, hx3⟩
          have hac := HAc.out.yes Hx.out (HIff.out.1 trivial)
          have HAc3 := Lib.hid hac
          have HO3 : Hid (uidR.RowsAt (fun b => b < w3.heap.size) w3 (putU x.uid false acc) v3) := Lib.hid (ho3.rows (by have := hac.len; rw [LIM_eq]; omega))
          have HX3 := Lib.hid (HX.out.trans hx3)
          clear hac ho3 hx3 c0 c1 d1
          go_wp2_with fail
          go_roundw
          case rel => exact ⟨k + 1, _, by have := Hlt.out; omega, by go_num, HO3, HAc3, HX3⟩
          case measure => have := Hlt.out; simp [intOf]; omega
        | false =>
          go_wp2_with fail
          go_roundw
          case rel => exact ⟨k + 1, acc, by have := Hlt.out; omega, by go_num, HO, Lib.hid (HAc.out.no Hx.out fun h => by have := HIff.out.2 h; cases this), HX⟩
          case measure => have := Hlt.out; simp [intOf]; omega
      · obtain rfl : k = l.length := by omega
        go_wp2_with fail
        go_ret
        exact ⟨_, acc, rfl, HO.out, HAc.out.strict, HAc.out.all, HX2.out.trans HX.out⟩
end Go.Proofs.YtjllolagcdjlnaaGreat
