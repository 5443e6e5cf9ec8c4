/-
  What layer 5's awake comes to: true. The conditions: none.
-/
import Derived.Test.YtpkgkabcikmopaaChainE
import Derived.Test.YtpkgkabcikmopaaStageG
namespace Go.Proofs.Ytpkgkabcikmopaa
open Go.RowKit

def tB : ByteArray := ⟨#[98]⟩
def uA : Uid := (tU, tA)
def uB : Uid := (tU, tB)
theorem uN0 : uN 0 = uA := by unfold uN uA; rw [cN_zero]
theorem uN1 : uN 1 = uB := by unfold uN uB; rw [show cN 1 = tB by decide +kernel]
theorem es2 : esN 2 true false = [⟨uA, [uB], recV⟩, ⟨uB, [uA], recV⟩] := by
  have : esN 2 true false = [entN 2 true false 0, entN 2 true false 1] := rfl
  rw [this]
  simp only [entN, psN]
  rw [uN0]
  simp [uN1, uA]
theorem canon_L1 : canonE [⟨uA, [uB], recV⟩, ⟨uB, [uA], recV⟩] = ([], 21) := by
  rw [← es2]
  exact canonE_closed (by decide) (by decide) (List.Perm.refl _)
theorem ordAB : ordU uA uB = -1 := by decide +kernel
theorem ordBA : ordU uB uA = 1 := by decide +kernel
theorem ordBB : ordU uB uB = 0 := by decide +kernel
theorem ab_ne : uA ≠ uB := fun h => by have := ordAB; rw [h, ordBB] at this; cases this
theorem canon_L2 : canonE [⟨uB, [], recV⟩, ⟨uA, [uB, uB], recV⟩] = ([⟨uA, [uB], recV⟩, ⟨uB, [], recV⟩], 0) := by
  have hne := ab_ne
  have h1 : ([⟨uB, [], recV⟩, ⟨uA, [uB, uB], recV⟩] : List Ent).map Ent.uid = [uB, uA] := rfl
  have hn : ([uB, uA] : List Uid).Nodup := by simp [Ne.symm hne]
  have hi : idx [uB, uA] uB = some 0 := by simp [idx]
  have hs : sortU ordU [uB, uB] = [uB] := by simp [sortU, ins, ordBB]
  have ho : onesE [uB, uA] [⟨uB, [], recV⟩, ⟨uA, [uB, uB], recV⟩] = ([⟨uB, [], recV⟩, ⟨uA, [uB], recV⟩], 0) := by
    have e1 : oneE [uB, uA] ⟨uB, [], recV⟩ = (⟨uB, [], recV⟩, 0) := by
      rw [oneE_good (by rfl) (by show recV.canon.2 = 0; rw [recV_canon]) (by rfl)]
      show ((⟨uB, sortU ordU [], recV.canon.1⟩ : Ent), (0 : Int)) = _
      rw [recV_canon]; rfl
    have e2 : oneE [uB, uA] ⟨uA, [uB, uB], recV⟩ = (⟨uA, [uB], recV⟩, 0) := by
      rw [oneE_good (by rfl) (by show recV.canon.2 = 0; rw [recV_canon]) (by simp [hi])]
      show ((⟨uA, sortU ordU [uB, uB], recV.canon.1⟩ : Ent), (0 : Int)) = _
      rw [recV_canon, hs]
    simp [onesE, e1, e2]
  have hr : ¬ Rounded [⟨uB, [], recV⟩, ⟨uA, [uB, uB], recV⟩] := by
    have hab : ∀ u v, Above [⟨uB, [], recV⟩, ⟨uA, [uB, uB], recV⟩] u v → u = uA ∧ v = uB := by
      rintro u v ⟨e, he, rfl, hp, _⟩
      simp only [List.mem_cons, List.mem_nil_iff, or_false] at he
      rcases he with rfl | rfl
      · simp at hp
      · simp at hp; exact ⟨rfl, hp⟩
    have ha : Acc (Above [⟨uB, [], recV⟩, ⟨uA, [uB, uB], recV⟩]) uA := ⟨_, fun v hv => absurd (hab v uA hv).2 hne⟩
    rintro ⟨u, hu, hacc⟩
    rw [h1] at hu
    simp only [List.mem_cons, List.mem_nil_iff, or_false] at hu
    rcases hu with rfl | rfl
    · exact hacc ⟨_, fun v hv => by rw [(hab v _ hv).1]; exact ha⟩
    · exact hacc ha
  unfold canonE
  rw [h1, if_neg (by simp), if_neg (fun h => h hn), ho, if_neg (by simp), if_neg hr]
  simp [sortU, ins, cmpE, ordBA]
theorem round_L3 : Rounded [⟨uA, [uA], .zero⟩] :=
  ⟨uA, by simp, not_acc_of (S := fun u => u = uA) (fun k hk => ⟨uA, rfl, ⟨_, List.mem_singleton.2 rfl, rfl, by simp [hk], by simp [hk]⟩⟩) rfl⟩

theorem flat_block {α : Type} {R : Rep α} {S : Nat → Prop} {w : World} {l : List α} {xs : List Value} {b : Nat} {T : TypeId} {fz : Nat × Nat} (h : w.heap[b]? = some (.cells xs.toArray T fz)) (hf : R.Flat S w l xs) (hb : S b) (hl : l.length ≤ LIM) {n cap : Nat} (hn : n = l.length) (hc : l.length ≤ cap) (hcm : cap ≤ maxLen) :
    R.RowsAt S w l (.slice (some ⟨b, 0, none⟩) n cap) := by
  subst hn
  exact ⟨_, cap, rfl, ⟨hl, hc, hcm⟩, fun _ => ⟨b, 0, rfl, hb, hf.row fun j v hj => by rw [cell_of_row _ _ _ _ _ _ h]; simpa using hj⟩⟩

def recC : List Value := [.int .i64 6, .bool false, .int .i64 0, .string ByteArray.empty, .string ByteArray.empty, .string ByteArray.empty, .slice none 0 0, .slice none 0 0]
theorem recV_at (S : Nat → Prop) (w : World) : Val.At S w recV recC := by
  unfold recV Val.At
  refine ⟨none, 0, .slice none 0 0, rfl, ⟨⟨by omega, by omega⟩, ⟨by omega, by omega⟩, ?_, ?_, ?_⟩, ⟨by rw [LIM_eq]; simp, by simp, by simp⟩, by simp, none, 0, rfl, by rw [LIM_eq]; simp, by simp, by simp, by simp, by simp⟩ <;> (rw [maxLen_eq]; decide)
theorem fitA : FitU uA := ⟨by rw [maxLen_eq]; decide, by rw [maxLen_eq]; decide⟩
theorem fitB : FitU uB := ⟨by rw [maxLen_eq]; decide, by rw [maxLen_eq]; decide⟩

theorem list_cons {α : Type} {l : List α} {n : Nat} (h : l.length = n + 1) : ∃ x r, l = x :: r ∧ r.length = n := by
  match l, h with
  | x :: r, h => exact ⟨x, r, rfl, by simpa using h⟩

/-! ### single operations -/
theorem exec_eqI {o : Oper} {a : Act} {w : World} {T T' : TypeId} {x y : Operand} {r s : Int} (ho : o.op = .binOp .eql T x y T') (hx : a.eval x = .int .i64 r) (hy : a.eval y = .int .i64 s) : (execOp a.eval o).run Try.prog w = .ok (.value (.bool (r == s))) w := by
  unfold execOp
  simp only [ho, hx, hy]
  simp [go_sem]
theorem exec_eqU {o : Oper} {a : Act} {w : World} {T' : TypeId} {x' y' : Operand} {x y : Uid} (ho : o.op = .binOp .eql 23 x' y' T') (hx : a.eval x' = valU x) (hy : a.eval y' = valU y) : (execOp a.eval o).run Try.prog w = .ok (.value (.bool (decide (x = y)))) w := by
  unfold execOp
  simp only [ho, hx, hy, Sem.run_bind, guardU, eqlU, Result.andThen_ok]
  rfl
theorem exec_pick {P : Program} {o : Oper} {a : Act} {w : World} {c x y : Operand} {v : Value} (ho : o.op = .pick c x y) (hc : a.eval c = .bool true) (hx : a.eval x = v) : (execOp a.eval o).run P w = .ok (.value v) w := by
  unfold execOp
  simp [ho, hc, hx, asBool]
theorem exec_len {o : Oper} {a : Act} {w : World} {T e : TypeId} {x : Operand} {A : Option Addr} {n c : Nat} (ho : o.op = .call { callee := .builtin .len, args := #[x], argTypes := #[T] }) (hT : Try.prog.underlying T = some (.slice e)) (hx : a.eval x = .slice A n c) : (execOp a.eval o).run Try.prog w = .ok (.value (.int .i64 n)) w := by
  unfold execOp
  simp only [ho, resolve, invoke, builtin, Sem.run_bind, Sem.run_pure, Result.andThen_ok, List.map_toArray, List.map_cons, List.map_nil, hx]
  simp [Builtin.len_, run_underlying hT, goInt]
theorem Try.agg58 : ∀ w, (isAgg 58).run Try.prog w = .ok false w := fun _ => by kernel_rfl
theorem Try.field60p (O : Nat) : ∀ w, (Instr.fieldAt 60 (.pointer (some ⟨O, 0, none⟩)) 1).run Try.prog w = .ok (.pointer (some ⟨O, 2, none⟩)) w := by
  intro w; simp [Instr.fieldAt, go_sem]
theorem Try.build58 (s t : ByteArray) : ∀ w, (Instr.buildSlice 58 1 #[(0, .agg #[.string s, .string t])]).run Try.prog w = .ok (.slice (some ⟨w.heap.size, 0, none⟩) 1 1) (w.alloc (.cells #[.string s, .string t] 23)) := by
  intro w; simp [Instr.buildSlice, go_sem]
theorem Try.built60z (s t : ByteArray) (A : Option Addr) (n c : Nat) : Try.prog.built 60 [(0, .agg #[.string s, .string t]), (1, .slice A n c)] =
    some #[.string s, .string t, .slice A n c, .int .i64 0, .bool false, .int .i64 0, .string ByteArray.empty, .string ByteArray.empty, .string ByteArray.empty, .slice none 0 0, .slice none 0 0] := by kernel_rfl

def guardsB (l : List Oper) (n : Nat) (gs : List Nat) : Bool := (l.take n).zipIdx.all fun p => match p.1.guard with
  | none => true
  | some (g, b) => b && gs.contains g && decide (g < n) && waits l p.2 g && (match l[g]? with | some og => og.dst.isSome | none => false)
theorem guards_of {l : List Oper} {n : Nat} {gs : List Nat} (h : guardsB l n gs = true) {i : Nat} {o : Oper} (hi : i < n) (ho : l[i]? = some o) {g : Nat} {b : Bool} (hg : o.guard = some (g, b)) : b = true ∧ g ∈ gs ∧ g < n ∧ waits l i g = true ∧ ∃ t, dstIs l g t = true := by
  have h1 := List.all_eq_true.1 h (o, i) (List.mem_zipIdx_iff_getElem?.2 (by rw [List.getElem?_take, if_pos hi]; exact ho))
  simp only [hg, Bool.and_eq_true, decide_eq_true_eq] at h1
  obtain ⟨⟨⟨⟨h1, h2⟩, h3⟩, h4⟩, h5⟩ := h1
  refine ⟨h1, by simpa using h2, h3, h4, ?_⟩
  unfold dstIs
  cases hl : l[g]? with
  | none => rw [hl] at h5; cases h5
  | some og =>
    rw [hl] at h5
    obtain ⟨t, ht⟩ := Option.isSome_iff_exists.1 h5
    exact ⟨t, by simp [ht]⟩

theorem heap6 (w : World) (o0 o1 o2 o3 o4 o5 : Obj) : ((((((w.alloc o0).alloc o1).alloc o2).alloc o3).alloc o4).alloc o5).heap[w.heap.size]? = some o0 ∧ ((((((w.alloc o0).alloc o1).alloc o2).alloc o3).alloc o4).alloc o5).heap[w.heap.size + 1]? = some o1 ∧
    ((((((w.alloc o0).alloc o1).alloc o2).alloc o3).alloc o4).alloc o5).heap[w.heap.size + 1 + 1]? = some o2 ∧ ((((((w.alloc o0).alloc o1).alloc o2).alloc o3).alloc o4).alloc o5).heap[w.heap.size + 1 + 1 + 1]? = some o3 ∧
    ((((((w.alloc o0).alloc o1).alloc o2).alloc o3).alloc o4).alloc o5).heap[w.heap.size + 1 + 1 + 1 + 1]? = some o4 ∧ ((((((w.alloc o0).alloc o1).alloc o2).alloc o3).alloc o4).alloc o5).heap[w.heap.size + 1 + 1 + 1 + 1 + 1]? = some o5 ∧
    ((((((w.alloc o0).alloc o1).alloc o2).alloc o3).alloc o4).alloc o5).heap.size = w.heap.size + 6 ∧ Ext w ((((((w.alloc o0).alloc o1).alloc o2).alloc o3).alloc o4).alloc o5) := by
  refine ⟨?_, ?_, ?_, ?_, ?_, ?_, by simp, (((((((Ext.refl w).alloc _).alloc _).alloc _).alloc _).alloc _).alloc _)⟩ <;> (simp only [World.alloc, Array.getElem?_push, Array.size_push]; (repeat rw [if_neg (by omega)]); simp)
theorem heap2 (w : World) (o0 o1 : Obj) : ((w.alloc o0).alloc o1).heap[w.heap.size]? = some o0 ∧ ((w.alloc o0).alloc o1).heap[w.heap.size + 1]? = some o1 ∧ ((w.alloc o0).alloc o1).heap.size = w.heap.size + 2 ∧ Ext w ((w.alloc o0).alloc o1) := by
  refine ⟨?_, ?_, by simp, ((Ext.refl w).alloc _).alloc _⟩ <;> (simp only [World.alloc, Array.getElem?_push, Array.size_push]; (repeat rw [if_neg (by omega)]); simp)

/-! ### how far the last statement is -/
def entZ (s : Nat) : Value := .agg #[.string tU, .string tA, .slice (some ⟨s, 0, none⟩) 1 1, .int .i64 0, .bool false, .int .i64 0, .string ByteArray.empty, .string ByteArray.empty, .string ByteArray.empty, .slice none 0 0, .slice none 0 0]
def vals5 (s : Nat) : List Value := [.int .i64 (-1), .bool true, .bool true, .bool true, .slice (some ⟨s, 0, none⟩) 1 1, entZ s, .slice (some ⟨s + 1, 0, none⟩) 1 1, .bool true, .bool true]
def obj1 : Obj := .cells #[.string tU, .string tA] 23
def obj2 (s : Nat) : Obj := .cells #[.string tU, .string tA, .slice (some ⟨s, 0, none⟩) 1 1, .int .i64 0, .bool false, .int .i64 0, .string ByteArray.empty, .string ByteArray.empty, .string ByteArray.empty, .slice none 0 0, .slice none 0 0] 60
structure Stage5 (w9 : World) (vs : List Value) (W : World) : Prop where
  ex : ∃ W1, Ext w9 W1 ∧ vs = (vals5 W1.heap.size).take vs.length ∧ (vs.length ≤ 4 → W = W1) ∧ (vs.length = 5 ∨ vs.length = 6 → W = W1.alloc obj1) ∧ (vs.length = 7 → W = (W1.alloc obj1).alloc (obj2 W1.heap.size)) ∧ (8 ≤ vs.length → Ext w9 W)
section
variable {w9 : World} {vs : List Value} {W : World}
theorem Stage5.ext (h : Stage5 w9 vs W) : Ext w9 W := by
  obtain ⟨W1, h1, _, h3, h4, h5, h6⟩ := h.ex
  rcases (by omega : vs.length ≤ 4 ∨ (vs.length = 5 ∨ vs.length = 6) ∨ vs.length = 7 ∨ 8 ≤ vs.length) with h | h | h | h
  · rw [h3 h]; exact h1
  · rw [h4 h]; exact h1.alloc _
  · rw [h5 h]; exact (h1.alloc _).alloc _
  · exact h6 h
theorem Stage5.at (h : Stage5 w9 vs W) {k : Nat} {v : Value} (hk : k < vs.length) (hv : ∀ s, (vals5 s)[k]? = some v) : vs.getD k undef = v := by
  obtain ⟨W1, _, h2, _⟩ := h.ex
  have h3 : vs[k]? = some v := by
    conv => lhs; rw [h2]
    rw [List.getElem?_take, if_pos hk]; exact hv _
  rw [List.getD_eq_getElem?_getD, h3]; rfl
theorem vals5_snoc {s n : Nat} {vs : List Value} {v : Value} (h : vs = (vals5 s).take vs.length) (hn : vs.length = n) (hv : (vals5 s)[n]? = some v) : vs ++ [v] = (vals5 s).take (vs ++ [v]).length := by
  rw [List.length_append, hn, List.length_singleton, take_succ_of hv, ← hn, ← h]
theorem Stage5.start (w9 : World) : Stage5 w9 [] w9.drew := ⟨w9.drew, ⟨⟨rfl, rfl, rfl, Nat.le_refl _, fun _ _ => rfl⟩, Nat.le_succ _⟩, rfl, fun _ => rfl, fun h => by simp at h, fun h => by simp at h, fun h => by simp at h⟩
theorem Stage5.first (hl : vs.length = 0) {w' : World} (h' : Ext w9 w') : Stage5 w9 (vs ++ [.int .i64 (-1)]) w' := by
  have : vs = [] := List.eq_nil_of_length_eq_zero hl
  subst this
  exact ⟨w', h', rfl, fun _ => rfl, fun h => by simp at h, fun h => by simp at h, fun h => by simp at h⟩
theorem Stage5.next (h : Stage5 w9 vs W) {k : Nat} {v : Value} (hl : vs.length = k) (hk : k ≤ 3) (hv : ∀ s, (vals5 s)[k]? = some v) : Stage5 w9 (vs ++ [v]) W := by
  obtain ⟨W1, h1, h2, h3, _⟩ := h.ex
  exact ⟨W1, h1, vals5_snoc h2 hl (hv _), fun _ => h3 (by omega), fun h => by simp at h; omega, fun h => by simp at h; omega, fun h => by simp at h; omega⟩
theorem Stage5.laid1 (h : Stage5 w9 vs W) (hl : vs.length = 4) : Stage5 w9 (vs ++ [.slice (some ⟨W.heap.size, 0, none⟩) 1 1]) (W.alloc obj1) := by
  obtain ⟨W1, h1, h2, h3, _⟩ := h.ex
  obtain rfl := h3 (by omega)
  exact ⟨W, h1, vals5_snoc h2 hl rfl, fun h => by simp at h; omega, fun _ => rfl, fun h => by simp at h; omega, fun h => by simp at h; omega⟩
theorem Stage5.s5 (h : Stage5 w9 vs W) (hl : vs.length = 5) : ∃ s, vs.getD 4 undef = .slice (some ⟨s, 0, none⟩) 1 1 ∧ Stage5 w9 (vs ++ [entZ s]) W := by
  obtain ⟨W1, h1, h2, h3, h4, _⟩ := h.ex
  refine ⟨W1.heap.size, ?_, W1, h1, vals5_snoc h2 hl rfl, fun h => by simp at h; omega, fun _ => h4 (.inl hl), fun h => by simp at h; omega, fun h => by simp at h; omega⟩
  rw [h2, hl]; rfl
theorem Stage5.s6 (h : Stage5 w9 vs W) (hl : vs.length = 6) : ∃ s, vs.getD 5 undef = entZ s ∧ Stage5 w9 (vs ++ [.slice (some ⟨W.heap.size, 0, none⟩) 1 1]) (W.alloc (obj2 s)) := by
  obtain ⟨W1, h1, h2, h3, h4, _⟩ := h.ex
  obtain rfl := h4 (.inr hl)
  refine ⟨W1.heap.size, ?_, W1, h1, vals5_snoc h2 hl ?_, fun h => by simp at h; omega, fun h => by simp at h; omega, fun _ => rfl, fun h => by simp at h; omega⟩
  · rw [h2, hl]; rfl
  · simp [vals5]
theorem Stage5.s7 (h : Stage5 w9 vs W) (hl : vs.length = 7) : ∃ s, vs.getD 6 undef = .slice (some ⟨s, 0, none⟩) 1 1 ∧ Calls Try.prog 38 #[.slice (some ⟨s, 0, none⟩) 1 1] W fun e w' => ∃ v, e = .returned v ∧ (v = .bool true ∧ Ext w9 w') := by
  obtain ⟨W1, h1, h2, h3, h4, h5, _⟩ := h.ex
  obtain rfl := h5 hl
  refine ⟨W1.heap.size + 1, by rw [h2, hl]; rfl, ?_⟩
  have hh := heap2 W1 obj1 (obj2 W1.heap.size)
  obtain ⟨m0, m1, hsz, hx⟩ := hh
  have hr : entR.RowsAt (fun b => b < ((W1.alloc obj1).alloc (obj2 W1.heap.size)).heap.size) ((W1.alloc obj1).alloc (obj2 W1.heap.size)) [⟨uA, [uA], .zero⟩] (.slice (some ⟨W1.heap.size + 1, 0, none⟩) 1 1) :=
    flat_block (xs := .string tU :: .string tA :: .slice (some ⟨W1.heap.size, 0, none⟩) 1 1 :: zeroCells) m1 (Rep.Flat.single (R := entR) (x := ⟨uA, [uA], .zero⟩) ⟨_, zeroCells, rfl, fitA, flat_block (xs := [.string tU, .string tA]) m0 (Rep.Flat.single (R := uidR) ⟨rfl, fitA⟩) (by omega) (by rw [LIM_eq]; simp) rfl (by simp) (by rw [maxLen_eq]; omega), Val.zero_at _ _⟩) (by omega) (by rw [LIM_eq]; simp) rfl (by simp) (by rw [maxLen_eq]; omega)
  refine (round_ok _ _ _ _ (fun _ h => h) hr (by simp) (by intro e he; simp at he; subst he; simp) (by simp)).mono ?_
  rintro e w' ⟨r, rfl, hr, hx'⟩
  exact ⟨_, rfl, by rw [hr.2 round_L3], ((h1.alloc _).alloc _).trans hx'⟩
theorem Stage5.late (h : Stage5 w9 vs W) (hl : vs.length = 7) {w' : World} (h' : Ext w9 w') : Stage5 w9 (vs ++ [.bool true]) w' := by
  obtain ⟨W1, h1, h2, _⟩ := h.ex
  exact ⟨W1, h1, vals5_snoc h2 hl rfl, fun h => by simp at h; omega, fun h => by simp at h; omega, fun h => by simp at h; omega, fun _ => h'⟩
theorem Stage5.next8 (h : Stage5 w9 vs W) (hl : vs.length = 8) : Stage5 w9 (vs ++ [.bool true]) W := by
  obtain ⟨W1, h1, h2, _, _, _, h6⟩ := h.ex
  exact ⟨W1, h1, vals5_snoc h2 hl rfl, fun h => by simp at h; omega, fun h => by simp at h; omega, fun h => by simp at h; omega, fun _ => h6 (by omega)⟩
end
set_option maxRecDepth 100000 in
set_option maxHeartbeats 1600000 in
theorem awake5_ok (w : World) : Calls Try.prog 36 #[] w fun e w' => e = .returned (.bool true) ∧ Ext w w' := by
  go_enter Try.func36, Try.ntmps36
  go_wp2_with fail
  obtain ⟨w6, hw6⟩ : ∃ w6, w6 = ((((((w.alloc (.cells #[.string tU, .string tA] 23)).alloc (.cells #[.string tU, .string tB] 23)).alloc (.cells recC.toArray 27)).alloc (.cells #[.string tU, .string tB] 23)).alloc (.cells #[.string tU, .string tA] 23)).alloc
      (.cells ((.string tU :: .string tA :: .slice (some ⟨w.heap.size + 1 + 1 + 1, 0, none⟩) 1 1 :: recC) ++ (.string tU :: .string tB :: .slice (some ⟨w.heap.size + 1 + 1 + 1 + 1, 0, none⟩) 1 1 :: recC)).toArray 60)) := ⟨_, rfl⟩
  have h6 := heap6 w (.cells #[.string tU, .string tA] 23) (.cells #[.string tU, .string tB] 23) (.cells recC.toArray 27) (.cells #[.string tU, .string tB] 23) (.cells #[.string tU, .string tA] 23)
      (.cells ((.string tU :: .string tA :: .slice (some ⟨w.heap.size + 1 + 1 + 1, 0, none⟩) 1 1 :: recC) ++ (.string tU :: .string tB :: .slice (some ⟨w.heap.size + 1 + 1 + 1 + 1, 0, none⟩) 1 1 :: recC)).toArray 60)
  rw [← hw6] at h6
  obtain ⟨m0, m1, m2, m3, m4, m5, hsz, hx⟩ := h6
  have hfl : ∀ (u : Uid) (S : Nat → Prop), FitU u → uidR.Flat S w6 [u] [.string u.1, .string u.2] := fun u S h => .single ⟨rfl, h⟩
  have hr : entR.RowsAt (fun b => b < w6.heap.size) w6 [⟨uA, [uB], recV⟩, ⟨uB, [uA], recV⟩] (.slice (some ⟨w.heap.size + 1 + 1 + 1 + 1 + 1, 0, none⟩) 2 2) :=
    flat_block m5 ((Rep.Flat.single (R := entR) (x := ⟨uA, [uB], recV⟩) (cs := .string tU :: .string tA :: .slice (some ⟨w.heap.size + 1 + 1 + 1, 0, none⟩) 1 1 :: recC) ⟨_, recC, rfl, fitA, flat_block m3 (hfl uB _ fitB) (by omega) (by rw [LIM_eq]; simp) rfl (by simp) (by rw [maxLen_eq]; omega), recV_at _ _⟩).append
      (Rep.Flat.single (R := entR) (x := ⟨uB, [uA], recV⟩) (cs := .string tU :: .string tB :: .slice (some ⟨w.heap.size + 1 + 1 + 1 + 1, 0, none⟩) 1 1 :: recC) ⟨_, recC, rfl, fitB, flat_block m4 (hfl uA _ fitA) (by omega) (by rw [LIM_eq]; simp) rfl (by simp) (by rw [maxLen_eq]; omega), recV_at _ _⟩)) (by omega) (by rw [LIM_eq]; simp) rfl (by simp) (by rw [maxLen_eq]; omega)
  have hcan := canE_ok _ _ _ w6 (fun _ h => h) hr (by simp) (by intro e he; simp at he; rcases he with rfl | rfl <;> simp) (by intro e he; simp at he; rcases he with rfl | rfl <;> simp [recV, Val.dep, Val.deps])
  rw [canon_L1] at hcan
  have HCan := Lib.hid hcan
  have HX6 := Lib.hid hx
  have M0 := Lib.hid m0
  have M1 := Lib.hid m1
  have M2 := Lib.hid m2
  have HSz := Lib.hid hsz
  clear m0 m1 m2 m3 m4 m5 hsz hx hr hcan hfl
  subst hw6
  refine HCan.out.mono ?_
  rintro e w7 ⟨v7, rfl, _, hx7⟩
  have HX7 := Lib.hid (HX6.out.trans hx7)
  have B0 : Hid (w7.heap[w.heap.size]? = some (.cells #[.string tU, .string tA] 23 (0, 0))) := Lib.hid ((hx7.block _ (Blk_lt M0.out)).trans M0.out)
  have B1 : Hid (w7.heap[w.heap.size + 1]? = some (.cells #[.string tU, .string tB] 23 (0, 0))) := Lib.hid ((hx7.block _ (Blk_lt M1.out)).trans M1.out)
  have B2 : Hid (w7.heap[w.heap.size + 1 + 1]? = some (.cells recC.toArray 27 (0, 0))) := Lib.hid ((hx7.block _ (Blk_lt M2.out)).trans M2.out)
  clear hx7 HCan M0 M1 M2
  have a0 : w7.cell? ⟨w.heap.size, 0, none⟩ = some (.string ⟨#[85]⟩) := by rw [cell_of_row _ _ _ _ _ _ B0.out]; rfl
  have a1 : w7.cell? ⟨w.heap.size, 1, none⟩ = some (.string ⟨#[97]⟩) := by rw [cell_of_row _ _ _ _ _ _ B0.out]; rfl
  have b0 : w7.cell? ⟨w.heap.size + 1, 0, none⟩ = some (.string ⟨#[85]⟩) := by rw [cell_of_row _ _ _ _ _ _ B1.out]; rfl
  have b1 : w7.cell? ⟨w.heap.size + 1, 1, none⟩ = some (.string ⟨#[98]⟩) := by rw [cell_of_row _ _ _ _ _ _ B1.out]; rfl
  have r0 : w7.cell? ⟨w.heap.size + 1 + 1, 0, none⟩ = some (.int .i64 6) := by rw [cell_of_row _ _ _ _ _ _ B2.out]; rfl
  have r1 : w7.cell? ⟨w.heap.size + 1 + 1, 1, none⟩ = some (.bool false) := by rw [cell_of_row _ _ _ _ _ _ B2.out]; rfl
  have r2 : w7.cell? ⟨w.heap.size + 1 + 1, 2, none⟩ = some (.int .i64 0) := by rw [cell_of_row _ _ _ _ _ _ B2.out]; rfl
  have r3 : w7.cell? ⟨w.heap.size + 1 + 1, 3, none⟩ = some (.string ByteArray.empty) := by rw [cell_of_row _ _ _ _ _ _ B2.out]; rfl
  have r4 : w7.cell? ⟨w.heap.size + 1 + 1, 4, none⟩ = some (.string ByteArray.empty) := by rw [cell_of_row _ _ _ _ _ _ B2.out]; rfl
  have r5 : w7.cell? ⟨w.heap.size + 1 + 1, 5, none⟩ = some (.string ByteArray.empty) := by rw [cell_of_row _ _ _ _ _ _ B2.out]; rfl
  have r6 : w7.cell? ⟨w.heap.size + 1 + 1, 6, none⟩ = some (.slice none 0 0) := by rw [cell_of_row _ _ _ _ _ _ B2.out]; rfl
  have r7 : w7.cell? ⟨w.heap.size + 1 + 1, 7, none⟩ = some (.slice none 0 0) := by rw [cell_of_row _ _ _ _ _ _ B2.out]; rfl
  have hz : w.heap.size + 1 + 1 < w7.heap.size := Blk_lt B2.out
  have hz : w.heap.size + 1 + 1 < w7.heap.size := Blk_lt B2.out
  go_wp2_with fail
  have h8 := heap2 w7 (.cells [.string tU, .string tB, .string tU, .string tB].toArray 23) (.cells ((.string tU :: .string tB :: .slice none 0 0 :: recC) ++ (.string tU :: .string tA :: .slice (some ⟨w7.heap.size, 0, none⟩) 2 2 :: recC)).toArray 60)
  obtain ⟨n0, n1, nsz, nx⟩ := h8
  have hr8 : entR.RowsAt (fun b => b < ((w7.alloc (.cells [.string tU, .string tB, .string tU, .string tB].toArray 23)).alloc (.cells ((.string tU :: .string tB :: .slice none 0 0 :: recC) ++ (.string tU :: .string tA :: .slice (some ⟨w7.heap.size, 0, none⟩) 2 2 :: recC)).toArray 60)).heap.size)
      ((w7.alloc (.cells [.string tU, .string tB, .string tU, .string tB].toArray 23)).alloc (.cells ((.string tU :: .string tB :: .slice none 0 0 :: recC) ++ (.string tU :: .string tA :: .slice (some ⟨w7.heap.size, 0, none⟩) 2 2 :: recC)).toArray 60)) [⟨uB, [], recV⟩, ⟨uA, [uB, uB], recV⟩] (.slice (some ⟨w7.heap.size + 1, 0, none⟩) 2 2) :=
    flat_block n1 ((Rep.Flat.single (R := entR) (x := ⟨uB, [], recV⟩) (cs := .string tU :: .string tB :: .slice none 0 0 :: recC) ⟨_, recC, rfl, fitB, Rep.RowsAt.nil _ _, recV_at _ _⟩).append
      (Rep.Flat.single (R := entR) (x := ⟨uA, [uB, uB], recV⟩) (cs := .string tU :: .string tA :: .slice (some ⟨w7.heap.size, 0, none⟩) 2 2 :: recC) ⟨_, recC, rfl, fitA, flat_block n0 ((Rep.Flat.single (R := uidR) (x := uB) (cs := [.string tU, .string tB]) ⟨rfl, fitB⟩).append (Rep.Flat.single (R := uidR) (x := uB) (cs := [.string tU, .string tB]) ⟨rfl, fitB⟩)) (by omega) (by rw [LIM_eq]; simp) rfl (by simp) (by rw [maxLen_eq]; omega), recV_at _ _⟩)) (by omega) (by rw [LIM_eq]; simp) rfl (by simp) (by rw [maxLen_eq]; omega)
  have hcan := canE_ok _ _ _ _ (fun _ h => h) hr8 (by simp) (by intro e he; simp at he; rcases he with rfl | rfl <;> simp) (by intro e he; simp at he; rcases he with rfl | rfl <;> simp [recV, Val.dep, Val.deps])
  rw [canon_L2] at hcan
  refine hcan.mono ?_
  rintro e w9 ⟨v9, rfl, ⟨xs9, ho9, hf9⟩, hx9⟩
  have HX9 := Lib.hid (HX7.out.trans (nx.trans hx9))
  have B0' := Lib.hid (((nx.trans hx9).block _ (Blk_lt B0.out)).trans B0.out)
  have B1' := Lib.hid (((nx.trans hx9).block _ (Blk_lt B1.out)).trans B1.out)
  obtain ⟨g, cap, rfl, hg, hnc, hcm, hcells⟩ := own_cells ho9 (by simp)
  have Hgl : Hid (g < w9.heap.size) := Lib.hid (ho9.lt g rfl).2
  have hfa := hf9.get (i := 0) (x := ⟨uA, [uB], recV⟩) rfl
  obtain ⟨cs9, ⟨pv, acs, rfl, _, ⟨A1, c1, rfl, _⟩, _⟩, hcs⟩ := hfa
  have hcg : CellsAt w9 g 0 [.string tU, .string tA] := fun j v hj => by
    refine hcells _ v ?_
    match j, hj with
    | 0, h => have := hcs 0 v h; simpa using this
    | 1, h => have := hcs 1 v h; simpa using this
  have hcp : w9.cell? ⟨g, 2, none⟩ = some (.slice A1 1 c1) := by
    have := hcells 2 (.slice A1 1 c1) (by simpa using hcs 2 (.slice A1 1 c1) rfl)
    simpa using this
  have hca : CellsAt w9 w.heap.size 0 [.string tU, .string tA] := fun j v hj => by rw [cell_of_row _ _ _ _ _ _ B0'.out]; simpa using hj
  have hcb : CellsAt w9 (w.heap.size + 1) 0 [.string tU, .string tB] := fun j v hj => by rw [cell_of_row _ _ _ _ _ _ B1'.out]; simpa using hj
  clear B0 B1
  have B0 := B0'
  have B1 := B1'
  have Hcg := Lib.hid hcg
  have Hca := Lib.hid hca
  have Hcb := Lib.hid hcb
  have Hcp := Lib.hid hcp
  clear hcg hca hcb hcp B0' B1' B2 a0 a1 b0 b1 r0 r1 r2 r3 r4 r5 r6 r7 hz hcan hr8 nx n0 n1 nsz ho9 hf9 hcs hcells hg hx9
  go_wp2_with fail
  -- REGION
  refine staged_regionG 41 [30, 31, 32, 33, 36, 37, 38, 39, 40] [.int .i64 21, .bool true, .bool true, .int .i64 0, .bool true, .bool true, .bool true, .slice (some ⟨g, 0, none⟩) 2 cap, .int .i64 2, .bool true, .bool true, .bool true, .slice (some ⟨g, 0, none⟩) 2 cap, .pointer (some ⟨g, 0, none⟩), .pointer (some ⟨g, 0, none⟩), .agg #[.string tU, .string tA], .agg #[.string tU, .string tA], .bool true, .bool true, .bool true, .slice (some ⟨g, 0, none⟩) 2 cap, .pointer (some ⟨g, 0, none⟩), .pointer (some ⟨g, 2, none⟩), .slice A1 1 c1, .int .i64 1, .bool true, .bool true, .bool true, .agg #[.string tU, .string tA], .agg #[.string tU, .string tB], undef, undef, undef, undef, .agg #[.string tU, .string tA], .agg #[.string tU, .string tA], undef, undef, undef, undef, undef]
    (Stage5 w9) (by kernel_rfl) (by kernel_rfl) (by kernel_rfl) (fun i o hi ho g' b hgd => ?_) (by kernel_rfl) (Stage5.start w9) (fun i op hi hn ho vs W a hR hold hat => ?_) (fun k i op hk ho vs W a hvl hR hold hat Q' K hK => ?_) ?_
  · obtain ⟨rfl, hgs, hgn, hgw, hgt⟩ := guards_of (gs := [2, 6, 11, 19, 27, 33]) (by kernel_rfl) hi ho hgd
    refine ⟨hgn, hgw, hgt, fun vs W hR hdone => ?_⟩
    simp only [List.mem_cons, List.mem_nil_iff, or_false] at hgs
    rcases hgs with rfl | rfl | rfl | rfl | rfl | rfl
    · rfl
    · rfl
    · rfl
    · rfl
    · rfl
    · exact hR.at (k := 3) (hdone 3 rfl) (fun _ => rfl)
  · have hx := hR.ext
    rcases (by simp at hn; omega : i = 0 ∨ i = 1 ∨ i = 2 ∨ i = 3 ∨ i = 4 ∨ i = 5 ∨ i = 6 ∨ i = 7 ∨ i = 8 ∨ i = 9 ∨ i = 10 ∨ i = 11 ∨ i = 12 ∨ i = 13 ∨ i = 14 ∨ i = 15 ∨ i = 16 ∨ i = 17 ∨ i = 18 ∨ i = 19 ∨ i = 20 ∨ i = 21 ∨ i = 22 ∨ i = 23 ∨ i = 24 ∨ i = 25 ∨ i = 26 ∨ i = 27 ∨ i = 28 ∨ i = 29 ∨ i = 34 ∨ i = 35) with rfl | rfl | rfl | rfl | rfl | rfl | rfl | rfl | rfl | rfl | rfl | rfl | rfl | rfl | rfl | rfl | rfl | rfl | rfl | rfl | rfl | rfl | rfl | rfl | rfl | rfl | rfl | rfl | rfl | rfl | rfl | rfl <;> obtain rfl := Option.some.inj ho
    · exact exec_move rfl (hold 5 (by kernel_rfl))
    · exact exec_eqI (y := .const (.int .i64 21)) (s := 21) rfl (hat 0 40 (by omega) (by kernel_rfl) (by kernel_rfl)) rfl
    · exact exec_move rfl (hat 1 41 (by omega) (by kernel_rfl) (by kernel_rfl))
    · exact exec_move rfl (hold 7 (by kernel_rfl))
    · exact exec_eqI (y := .const (.int .i64 0)) (s := 0) rfl (hat 3 43 (by omega) (by kernel_rfl) (by kernel_rfl)) rfl
    · exact exec_pick rfl (hat 2 42 (by omega) (by kernel_rfl) (by kernel_rfl)) (hat 4 44 (by omega) (by kernel_rfl) (by kernel_rfl))
    · exact exec_move rfl (hat 5 45 (by omega) (by kernel_rfl) (by kernel_rfl))
    · exact exec_move rfl (hold 6 (by kernel_rfl))
    · exact exec_len rfl Try.underlying57 (hat 7 47 (by omega) (by kernel_rfl) (by kernel_rfl))
    · exact exec_eqI (y := .const (.int .i64 2)) (s := 2) rfl (hat 8 48 (by omega) (by kernel_rfl) (by kernel_rfl)) rfl
    · exact exec_pick rfl (hat 6 46 (by omega) (by kernel_rfl) (by kernel_rfl)) (hat 9 49 (by omega) (by kernel_rfl) (by kernel_rfl))
    · exact exec_move rfl (hat 10 50 (by omega) (by kernel_rfl) (by kernel_rfl))
    · exact exec_move rfl (hold 6 (by kernel_rfl))
    · exact exec_index (i := 0) rfl (hat 12 52 (by omega) (by kernel_rfl) (by kernel_rfl)) rfl Try.underlying57 Try.size60 (by omega)
    · exact exec_field _ _ _ rfl (hat 13 53 (by omega) (by kernel_rfl) (by kernel_rfl)) (Try.field60 g)
    · exact exec_load_cells _ _ rfl g 0 (hat 14 54 (by omega) (by kernel_rfl) (by kernel_rfl)) (cs := [.string tU, .string tA]) Try.agg23 Try.size23 rfl (Hcg.out.alike (S := fun b => b < w9.heap.size) Hgl.out (Alike.of_ext hx (fun _ h => h)))
    · exact exec_load_cells _ _ rfl w.heap.size 0 (hold 1 (by kernel_rfl)) (cs := [.string tU, .string tA]) Try.agg23 Try.size23 rfl (Hca.out.alike (S := fun b => b < w9.heap.size) (Blk_lt B0.out) (Alike.of_ext hx (fun _ h => h)))
    · exact (exec_eqU (x := uA) (y := uA) rfl (hat 15 55 (by omega) (by kernel_rfl) (by kernel_rfl)) (hat 16 56 (by omega) (by kernel_rfl) (by kernel_rfl))).trans (by simp)
    · exact exec_pick rfl (hat 11 51 (by omega) (by kernel_rfl) (by kernel_rfl)) (hat 17 57 (by omega) (by kernel_rfl) (by kernel_rfl))
    · exact exec_move rfl (hat 18 58 (by omega) (by kernel_rfl) (by kernel_rfl))
    · exact exec_move rfl (hold 6 (by kernel_rfl))
    · exact exec_index (i := 0) rfl (hat 20 60 (by omega) (by kernel_rfl) (by kernel_rfl)) rfl Try.underlying57 Try.size60 (by omega)
    · exact exec_field _ _ _ rfl (hat 21 61 (by omega) (by kernel_rfl) (by kernel_rfl)) (Try.field60p g)
    · exact exec_load_one _ _ rfl g 2 (hat 22 62 (by omega) (by kernel_rfl) (by kernel_rfl)) Try.agg58 ((World.cell?_of_block (a := ⟨g, 2, none⟩) (hx.block g Hgl.out)).trans Hcp.out)
    · exact exec_len rfl Try.underlying58 (hat 23 63 (by omega) (by kernel_rfl) (by kernel_rfl))
    · exact exec_eqI (y := .const (.int .i64 1)) (s := 1) rfl (hat 24 64 (by omega) (by kernel_rfl) (by kernel_rfl)) rfl
    · exact exec_pick rfl (hat 19 59 (by omega) (by kernel_rfl) (by kernel_rfl)) (hat 25 65 (by omega) (by kernel_rfl) (by kernel_rfl))
    · exact exec_move rfl (hat 26 66 (by omega) (by kernel_rfl) (by kernel_rfl))
    · exact exec_load_cells _ _ rfl w.heap.size 0 (hold 1 (by kernel_rfl)) (cs := [.string tU, .string tA]) Try.agg23 Try.size23 rfl (Hca.out.alike (S := fun b => b < w9.heap.size) (Blk_lt B0.out) (Alike.of_ext hx (fun _ h => h)))
    · exact exec_load_cells _ _ rfl (w.heap.size + 1) 0 (hold 2 (by kernel_rfl)) (cs := [.string tU, .string tB]) Try.agg23 Try.size23 rfl (Hcb.out.alike (S := fun b => b < w9.heap.size) (Blk_lt B1.out) (Alike.of_ext hx (fun _ h => h)))
    · exact exec_load_cells _ _ rfl w.heap.size 0 (hold 1 (by kernel_rfl)) (cs := [.string tU, .string tA]) Try.agg23 Try.size23 rfl (Hca.out.alike (S := fun b => b < w9.heap.size) (Blk_lt B0.out) (Alike.of_ext hx (fun _ h => h)))
    · exact exec_load_cells _ _ rfl w.heap.size 0 (hold 1 (by kernel_rfl)) (cs := [.string tU, .string tA]) Try.agg23 Try.size23 rfl (Hca.out.alike (S := fun b => b < w9.heap.size) (Blk_lt B0.out) (Alike.of_ext hx (fun _ h => h)))
  · have hk9 : k < 9 := by simpa using (List.getElem?_eq_some_iff.1 hk).1
    rcases (by omega : k = 0 ∨ k = 1 ∨ k = 2 ∨ k = 3 ∨ k = 4 ∨ k = 5 ∨ k = 6 ∨ k = 7 ∨ k = 8) with rfl | rfl | rfl | rfl | rfl | rfl | rfl | rfl | rfl <;> obtain rfl := Option.some.inj hk <;> obtain rfl := Option.some.inj ho
    · have hx := hR.ext
      refine wp_enter2 (Φ := fun v w' => v = .int .i64 (-1) ∧ Ext w9 w') (exec_call Try.func63 rfl rfl rfl (map_two (hat 28 68 (by omega) (by kernel_rfl) (by kernel_rfl)) (hat 29 69 (by omega) (by kernel_rfl) (by kernel_rfl)))) ?_ (fun v w' h => hK _ _ ?_)
      · refine (orderU_ok uA uB W).mono ?_
        rintro e w' ⟨rfl, hx'⟩
        exact ⟨_, rfl, by rw [ordAB], hx.trans hx'⟩
      · obtain ⟨rfl, h'⟩ := h
        exact Stage5.first hvl h'
    · exact wp_value2 (exec_eqI (y := .const (.int .i64 (-1))) (s := -1) rfl (((hat 30 70 (by omega) (by kernel_rfl) (by kernel_rfl))).trans (hR.at (k := 0) (by omega) (fun _ => rfl))) rfl) (hK _ _ (hR.next (k := 1) hvl (by omega) (fun _ => rfl)))
    · exact wp_value2 (exec_pick rfl (hat 27 67 (by omega) (by kernel_rfl) (by kernel_rfl)) (((hat 31 71 (by omega) (by kernel_rfl) (by kernel_rfl))).trans (hR.at (k := 1) (by omega) (fun _ => rfl)))) (hK _ _ (hR.next (k := 2) hvl (by omega) (fun _ => rfl)))
    · exact wp_value2 (exec_move rfl (((hat 32 72 (by omega) (by kernel_rfl) (by kernel_rfl))).trans (hR.at (k := 2) (by omega) (fun _ => rfl)))) (hK _ _ (hR.next (k := 3) hvl (by omega) (fun _ => rfl)))
    · exact wp_value2 (exec_build _ _ rfl (hat 35 75 (by omega) (by kernel_rfl) (by kernel_rfl)) (Try.build58 tU tA W)) (hK _ _ (hR.laid1 hvl))
    · obtain ⟨s, hs⟩ := hR.s5 hvl
      exact wp_value2 (exec_build_agg _ _ rfl (vals := [(0, .agg #[.string tU, .string tA]), (1, .slice (some ⟨s, 0, none⟩) 1 1)]) (by simp only [List.map_toArray, List.map_cons, List.map_nil, (hat 34 74 (by omega) (by kernel_rfl) (by kernel_rfl)), ((hat 36 76 (by omega) (by kernel_rfl) (by kernel_rfl))).trans hs.1]; rfl) (Try.built60z _ _ _ _ _)) (hK _ _ hs.2)
    · obtain ⟨s, hs⟩ := hR.s6 hvl
      exact wp_value2 (exec_build _ _ rfl (((hat 37 77 (by omega) (by kernel_rfl) (by kernel_rfl))).trans hs.1) (Try.build57 _ _ _ _ _ _ _ _ _ _ _ W)) (hK _ _ hs.2)
    · obtain ⟨s, hs⟩ := hR.s7 hvl
      refine wp_enter2 (Φ := fun v w' => v = .bool true ∧ Ext w9 w') (exec_call Try.func38 rfl rfl rfl (map_one (((hat 38 78 (by omega) (by kernel_rfl) (by kernel_rfl))).trans hs.1))) ?_ (fun v w' h => hK _ _ ?_)
      · exact hs.2
      · obtain ⟨rfl, h'⟩ := h
        exact hR.late hvl h'
    · exact wp_value2 (exec_pick rfl (((hat 33 73 (by omega) (by kernel_rfl) (by kernel_rfl))).trans (hR.at (k := 3) (by omega) (fun _ => rfl))) (((hat 39 79 (by omega) (by kernel_rfl) (by kernel_rfl))).trans (hR.at (k := 7) (by omega) (fun _ => rfl)))) (hK _ _ (hR.next8 hvl))
  · intro ys vs W hyl hvl hR hys
    have h40 : ys.getD 40 undef = .bool true := (hys 40 (by omega)).trans (hR.at (k := 8) (by rw [hvl]; decide) (fun _ => rfl))
    have hx := hR.ext
    clear hys hR hvl
    obtain ⟨y0, zs0, rfl, hy0⟩ := list_cons hyl
    obtain ⟨y1, zs1, rfl, hy1⟩ := list_cons hy0
    obtain ⟨y2, zs2, rfl, hy2⟩ := list_cons hy1
    obtain ⟨y3, zs3, rfl, hy3⟩ := list_cons hy2
    obtain ⟨y4, zs4, rfl, hy4⟩ := list_cons hy3
    obtain ⟨y5, zs5, rfl, hy5⟩ := list_cons hy4
    obtain ⟨y6, zs6, rfl, hy6⟩ := list_cons hy5
    obtain ⟨y7, zs7, rfl, hy7⟩ := list_cons hy6
    obtain ⟨y8, zs8, rfl, hy8⟩ := list_cons hy7
    obtain ⟨y9, zs9, rfl, hy9⟩ := list_cons hy8
    obtain ⟨y10, zs10, rfl, hy10⟩ := list_cons hy9
    obtain ⟨y11, zs11, rfl, hy11⟩ := list_cons hy10
    obtain ⟨y12, zs12, rfl, hy12⟩ := list_cons hy11
    obtain ⟨y13, zs13, rfl, hy13⟩ := list_cons hy12
    obtain ⟨y14, zs14, rfl, hy14⟩ := list_cons hy13
    obtain ⟨y15, zs15, rfl, hy15⟩ := list_cons hy14
    obtain ⟨y16, zs16, rfl, hy16⟩ := list_cons hy15
    obtain ⟨y17, zs17, rfl, hy17⟩ := list_cons hy16
    obtain ⟨y18, zs18, rfl, hy18⟩ := list_cons hy17
    obtain ⟨y19, zs19, rfl, hy19⟩ := list_cons hy18
    obtain ⟨y20, zs20, rfl, hy20⟩ := list_cons hy19
    obtain ⟨y21, zs21, rfl, hy21⟩ := list_cons hy20
    obtain ⟨y22, zs22, rfl, hy22⟩ := list_cons hy21
    obtain ⟨y23, zs23, rfl, hy23⟩ := list_cons hy22
    obtain ⟨y24, zs24, rfl, hy24⟩ := list_cons hy23
    obtain ⟨y25, zs25, rfl, hy25⟩ := list_cons hy24
    obtain ⟨y26, zs26, rfl, hy26⟩ := list_cons hy25
    obtain ⟨y27, zs27, rfl, hy27⟩ := list_cons hy26
    obtain ⟨y28, zs28, rfl, hy28⟩ := list_cons hy27
    obtain ⟨y29, zs29, rfl, hy29⟩ := list_cons hy28
    obtain ⟨y30, zs30, rfl, hy30⟩ := list_cons hy29
    obtain ⟨y31, zs31, rfl, hy31⟩ := list_cons hy30
    obtain ⟨y32, zs32, rfl, hy32⟩ := list_cons hy31
    obtain ⟨y33, zs33, rfl, hy33⟩ := list_cons hy32
    obtain ⟨y34, zs34, rfl, hy34⟩ := list_cons hy33
    obtain ⟨y35, zs35, rfl, hy35⟩ := list_cons hy34
    obtain ⟨y36, zs36, rfl, hy36⟩ := list_cons hy35
    obtain ⟨y37, zs37, rfl, hy37⟩ := list_cons hy36
    obtain ⟨y38, zs38, rfl, hy38⟩ := list_cons hy37
    obtain ⟨y39, zs39, rfl, hy39⟩ := list_cons hy38
    obtain ⟨y40, zs40, rfl, hy40⟩ := list_cons hy39
    obtain rfl := List.eq_nil_of_length_eq_zero hy40
    have h40 : y40 = .bool true := h40
    subst h40
    have HXf := Lib.hid (HX9.out.trans hx)
    clear hx hy0 hy1 hy2 hy3 hy4 hy5 hy6 hy7 hy8 hy9 hy10 hy11 hy12 hy13 hy14 hy15 hy16 hy17 hy18 hy19 hy20 hy21 hy22 hy23 hy24 hy25 hy26 hy27 hy28 hy29 hy30 hy31 hy32 hy33 hy34 hy35 hy36 hy37 hy38 hy39
    simp only [List.take, List.drop, putAll]
    go_wp2_with fail
    go_ret
    exact ⟨rfl, HXf.out⟩
  -- BEHIND
end Go.Proofs.Ytpkgkabcikmopaa
