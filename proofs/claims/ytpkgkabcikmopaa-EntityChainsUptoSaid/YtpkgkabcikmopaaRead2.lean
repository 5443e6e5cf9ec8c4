/-
  A law's argument that is a slice of values, or of strings, as plain data; rows as cells. The conditions: what is read is of bulk at most 1048576.
-/
import Derived.Test.YtpkgkabcikmopaaPost
import Derived.Test.YtpkgkabcikmopaaBox
import Derived.Test.YtpkgkabcikmopaaIns
namespace Go.Proofs.Ytpkgkabcikmopaa
open Go.ChangeShapes Go.WideShapes Go.ChangeAt Go.RowKit Go.Deep

section
variable {H : Type} {enc : TypeId × Value → H} {W : World}
set_option maxRecDepth 100000 in
theorem read_vals {fuel : Nat} {cs : List Value} {d : DataW H} {ps : List MemPlace} (h : DataW.trod enc Try.prog W 0 (fun _ => true) true fuel 24 cs = some (d, ps)) (hb : Rows.uptoBulk d ≤ 1048576) :
    ∃ l v, cs = [v] ∧ ValsAt (fun b => b < W.heap.size) W l v := by
  rcases open_slice Try.underlying24 h with ⟨rfl, hx⟩ | ⟨a, len, cap, m, n, D, Pl, rfl, _, hl, hm, hme, hx, hel⟩
  · exact ⟨[], _, rfl, none, 0, rfl, ⟨by simp, by simp, by simp⟩, by simp⟩
  · injection hx with hd _
    have hme : m = cap := by simpa using hme
    have hlen : len ≤ 1048576 := by
      rw [hd] at hb
      simp only [Rows.uptoBulk] at hb
      have := bulk_length ((List.range len).map D)
      simp at this; omega
    rcases Nat.eq_zero_or_pos len with h0 | hpos
    · subst h0
      exact ⟨[], _, rfl, some a, cap, rfl, ⟨by simp, by simp, hm⟩, by simp⟩
    obtain ⟨b, off, rfl, hbl⟩ : ∃ b off, a = ⟨b, off, none⟩ ∧ b < W.heap.size := by
      obtain ⟨cs', q1, _⟩ := hel 0 (by omega)
      rw [Try.cells27] at q1
      exact cells_first (by omega) q1
    have hel' : ∀ j, j < len → ∃ x : Val, ∃ cs', cs'.length = 8 ∧ CellsAt W b (off + j * 8) cs' ∧ Val.At (fun b => b < W.heap.size) W x cs' := fun j hj => by
      obtain ⟨cs', q1, q2⟩ := hel j (by omega)
      rw [Try.cells27] at q1
      obtain ⟨hcl, hc⟩ := cells_place q1
      have hbj : Rows.uptoBulk (D j) ≤ 1048576 := by
        have := bulk_part (List.mem_map_of_mem (f := D) (List.mem_range.2 hj))
        rw [hd] at hb
        simp only [Rows.uptoBulk] at hb
        omega
      obtain ⟨B, b1, b2⟩ : ∃ B, Rows.uptoBulk (D j) ≤ B ∧ B ≤ 1048576 := ⟨_, Nat.le_refl _, hbj⟩
      obtain ⟨x, hx⟩ := read_val B n cs' (D j) (Pl j) q2 b1 b2
      exact ⟨x, cs', hcl, hc, hx⟩
    obtain ⟨l, hll, hp⟩ := list_of len hel'
    exact ⟨l, _, rfl, some ⟨b, off, none⟩, cap, by rw [hll], ⟨by rw [hll]; unfold LIM; omega, by omega, hm⟩, fun _ => ⟨b, off, rfl, hbl, Val.RowAt.mk fun j x hx => hp j x hx⟩⟩
end
set_option maxRecDepth 100000 in
theorem read_vals_arg {H : Type} {enc : TypeId × Value → H} {W : World} {base : Nat} {v : Value} {d : DataW H} {p : List MemPlace} (hv : Value.okWide Try.prog W .any base 24 v) (h : DataW.Trod enc Try.prog W 0 (fun _ => true) true 24 v d p) (hb : Rows.uptoBulk d ≤ 1048576) :
    ∃ l, ValsAt (fun b => b < W.heap.size) W l v := by
  obtain ⟨a0, len, cap, rfl⟩ := okWide_slice Try.underlying24 hv
  obtain ⟨fuel, hf⟩ := h
  obtain ⟨l, v, e, hl⟩ := read_vals hf hb
  have e : [Value.slice a0 len cap] = [v] := e
  injection e with e _
  exact ⟨l, by rw [e]; exact hl⟩

/-! ### rows as cells -/
theorem ValsAt.mono {S S' : Nat → Prop} {w : World} {l : List Val} {v : Value} (h : ValsAt S w l v) (k : ∀ b, S b → S' b) : ValsAt S' w l v := by
  obtain ⟨A, cap, e, h1, h2⟩ := h
  exact ⟨A, cap, e, h1, fun hn => let ⟨b, o, e, hs, hr⟩ := h2 hn; ⟨b, o, e, k b hs, Val.RowAt.mono k l b o hr⟩⟩
def ValsW (W : World) (l : List Val) (v : Value) : Prop := ValsAt (fun b => b < W.heap.size) W l v
theorem ValsW.ext {W W' : World} {l : List Val} {v : Value} (h : ValsW W l v) (k : Ext W W') : ValsW W' l v := (ValsAt.alike h (Alike.of_ext k fun _ h => h)).mono fun _ hb => Nat.lt_of_lt_of_le hb k.size
theorem Flat.append {S : Nat → Prop} {w : World} : ∀ {l m : List Val} {xs ys : List Value}, Flat S w l xs → Flat S w m ys → Flat S w (l ++ m) (xs ++ ys)
  | [], m, xs, ys, h, k => by simp only [Flat] at h; subst h; simpa using k
  | v :: r, m, xs, ys, ⟨c, zs, e, hv, hr⟩, k => by
    subst e
    exact ⟨c, zs ++ ys, by simp, hv, Flat.append hr k⟩
theorem rowAt_flat {S : Nat → Prop} {w : World} : ∀ {l : List Val} {b o : Nat}, Val.RowAt S w l b o → ∃ xs, Flat S w l xs ∧ CellsAt w b o xs
  | [], b, o, _ => ⟨[], rfl, fun j v h => by simp at h⟩
  | v :: r, b, o, h => by
    unfold Val.RowAt at h
    obtain ⟨⟨cs, hl, hc, hv⟩, hr⟩ := h
    obtain ⟨xs, h1, h2⟩ := rowAt_flat hr
    refine ⟨cs ++ xs, ⟨cs, xs, rfl, hv, h1⟩, fun j u hj => ?_⟩
    rcases Nat.lt_or_ge j 8 with h8 | h8
    · rw [List.getElem?_append_left (by omega)] at hj; exact hc j u hj
    · rw [List.getElem?_append_right (by omega), hl] at hj
      have := h2 (j - 8) u hj
      rwa [show o + 8 + (j - 8) = o + j by omega] at this
theorem vals_flat {S : Nat → Prop} {w : World} {l : List Val} {A : Option Addr} {n cap : Nat} (h : ValsAt S w l (.slice A n cap)) : ∃ xs, Flat S w l xs ∧ SrcAt w A l.length xs := by
  obtain ⟨A', cap', e, _, h2⟩ := h
  injection e with e1 _ _
  subst e1
  rcases Nat.eq_zero_or_pos l.length with h0 | hpos
  · have : l = [] := List.eq_nil_of_length_eq_zero h0
    subst this
    exact ⟨[], rfl, fun h => by simp at h⟩
  · obtain ⟨b, o, e, _, hr⟩ := h2 hpos
    obtain ⟨xs, h3, h4⟩ := rowAt_flat hr
    exact ⟨xs, h3, fun _ => ⟨b, o, e, h4⟩⟩
theorem InW.items {W : World} {v : Val} {v0 v1 v2 v3 v4 v5 v7 : Value} {A : Option Addr} {n c : Nat} (h : InW W v [v0, v1, v2, v3, v4, v5, .slice A n c, v7]) : v.items.length = n ∧ n ≤ 1073741824 := by
  cases v
  unfold InW Val.At at h
  obtain ⟨A', cap', nv, e, _, ⟨h1, _⟩, _⟩ := h
  simp only [List.cons.injEq, Value.slice.injEq] at e
  obtain ⟨_, _, _, _, _, _, ⟨_, e, _⟩, _⟩ := e
  rw [LIM_eq] at h1
  exact ⟨e.symm, by rw [e]; exact h1⟩
end Go.Proofs.Ytpkgkabcikmopaa
