/-
  What the program's Round comes to: whether some are above themselves. The conditions: the entities lie in memory as they should, no name is there twice.
-/
import Derived.Test.YtpkgkabcikmopaaRound
namespace Go.Proofs.Ytpkgkabcikmopaa
open Go.RowKit

/-- the names that are still to come, by number -/
def skipL (us : List Uid) (left : Uid → Bool) (i : Nat) : Bool := match us[i]? with
  | some u => left u
  | none => true
theorem skipL_of {us : List Uid} {left : Uid → Bool} {i : Nat} {u : Uid} (h : us[i]? = some u) : skipL us left i = left u := by simp [skipL, h]
theorem skipL_one {us : List Uid} (hn : us.Nodup) {left : Uid → Bool} {i : Nat} {u : Uid} (h : us[i]? = some u) (hl : left u = true) :
    skipL us left i = true ∧ skipL us (fun y => left y && !decide (y = u)) i = false ∧ ∀ j, j ≠ i → skipL us left j = skipL us (fun y => left y && !decide (y = u)) j := by
  refine ⟨by rw [skipL_of h]; exact hl, by rw [skipL_of h]; simp, fun j hj => ?_⟩
  unfold skipL
  cases hu : us[j]? with
  | none => rfl
  | some v =>
    have : v ≠ u := fun e => by
      subst e
      have h1 := idx_of_get hn hu
      have h2 := idx_of_get hn h
      rw [h1] at h2
      exact hj (Option.some.inj h2)
    simp [this]

theorem RangeU.apart {w w' : World} {b r : Nat} {m : Uid → Option Nat} {left : Uid → Bool} {cnt G : Nat} (h : RangeU w b r m left cnt) (k : GrownBy w w' (some G)) {cs : Array Value} {T : TypeId} (hG : w.heap[G]? = some (.cells cs T (0, 0))) : RangeU w' b r m left cnt := by
  obtain ⟨x, y, z, hi⟩ := h.isIter
  have hb : ∃ es clock, w.heap[b]? = some (.map es clock) := by
    obtain ⟨D, n, lf, ⟨es, clock, _, _, _, h1, _⟩, _⟩ := h
    exact ⟨es, clock, h1⟩
  obtain ⟨es, clock, hb⟩ := hb
  exact h.block (k.block _ h.lt.1 fun e => by injection e with e; rw [e, hG] at hb; cases hb) (k.block _ h.lt.2 fun e => by injection e with e; rw [e, hG] at hi; cases hi)

theorem RangeU.own {w w' : World} {b r : Nat} {m : Uid → Option Nat} {left : Uid → Bool} {cnt base n size : Nat} {e : TypeId} {v : Value} {xs : List Value} (h : RangeU w b r m left cnt) (k : GrownBy w w' v.ownBlock) (hown : w.ownsRow base e size v n xs) : RangeU w' b r m left cnt := by
  obtain ⟨hx, hv⟩ := hown
  rcases hv with ⟨rfl, _⟩ | ⟨g, cap, cur, rfl, _, hh, _⟩
  · exact h.block (k.block _ h.lt.1 fun e => by cases e) (k.block _ h.lt.2 fun e => by cases e)
  · exact h.apart k hh
theorem ownsRow_cut {w : World} {base : Nat} {e : TypeId} {g n m cap size : Nat} {xs ys : List Value} (h : w.ownsRow base e size (.slice (some ⟨g, 0, none⟩) n cap) n (xs ++ ys)) (hm : m ≤ n) (hx : xs.length = m * size) : w.ownsRow base e size (.slice (some ⟨g, 0, none⟩) m cap) m xs := by
  obtain ⟨h1, hv⟩ := h
  rcases hv with ⟨hv, _⟩ | ⟨g', cap', cur, hv, hg, hh, hnc, hcm, hcur, htake⟩
  · cases hv
  · injection hv with e1 _ e3
    injection e1 with e1
    injection e1 with e1 _
    subst e1 e3
    refine ⟨hx, .inr ⟨_, _, cur, rfl, hg, hh, by omega, hcm, hcur, ?_⟩⟩
    have : (cur.toList.take (n * size)).take (m * size) = (xs ++ ys).take (m * size) := by rw [htake]
    rw [List.take_take, Nat.min_eq_left (Nat.mul_le_mul_right _ hm), ← hx, List.take_left] at this
    rw [← hx]; exact this

theorem Try.enter73 : ∀ args w, (callFunc 73 args).run Try.prog w = .ok (.enter 73 args) w := fun _ _ => by kernel_rfl
theorem Try.enter74 : ∀ args w, (callFunc 74 args).run Try.prog w = .ok (.enter 74 args) w := fun _ _ => by kernel_rfl

/-- the first pass -/
def Pass1 (w0 : World) (q : KNum) (l : List Ent) (r : Nat) (left : Uid → Bool) (cnt : Nat) (rest : List Nat) (w : World) : Prop :=
  ∃ f, KState w0 q (l.map Ent.uid) f [] w ∧ RangeU w q.B r (idx (l.map Ent.uid)) left cnt ∧ ∀ k, k < l.length → f k + rest.count k = cntOut (parN l) (skipL (l.map Ent.uid) left) k l.length

theorem parN_len {l : List Ent} {M : Nat} (hps : ∀ e ∈ l, e.ps.length ≤ M) (i : Nat) : (parN l i).length ≤ M := by
  unfold parN
  split
  · rename_i e he
    exact Nat.le_trans (List.length_filterMap_le _ _) (hps e (List.mem_of_getElem? he))
  · simp

theorem Pass1.later {w0 : World} {q : KNum} {l : List Ent} {r : Nat} {left : Uid → Bool} {cnt : Nat} {rest : List Nat} {w w' : World} (h : Pass1 w0 q l r left cnt rest w) (k : Ext w w') : Pass1 w0 q l r left cnt rest w' := by
  obtain ⟨f, h1, h2, h3⟩ := h
  exact ⟨f, h1.later k, h2.ext k, h3⟩
theorem Pass1.tell {w0 : World} {q : KNum} {l : List Ent} {r : Nat} {left : Uid → Bool} {cnt k : Nat} {rest : List Nat} {w : World} (h : Pass1 w0 q l r left cnt (k :: rest) w) (hk : k < l.length) (hq : q.n = l.length) (hlen : l.length ≤ 1048576) (hps : ∀ e ∈ l, e.ps.length ≤ 1048576) :
    Calls Try.prog 73 (#[.int .i64 k] ++ #[.pointer (some ⟨q.bB, 0, none⟩)]) w fun e w' => e = .returned (.tuple #[]) ∧ Pass1 w0 q l r left cnt rest w' := by
  obtain ⟨f, h1, h2, h3⟩ := h
  have hb := cntOut_le (par := parN l) (s := skipL (l.map Ent.uid) left) (k := k) (n := l.length) (M := 1048576) fun i _ => parN_len hps i
  have hm : l.length * 1048576 ≤ 1048576 * 1048576 := Nat.mul_le_mul_right _ hlen
  have h4 := h3 k hk
  refine (inc_ok w0 q _ f [] w k h1 (by rw [hq]; exact hk) (by omega)).mono ?_
  rintro e w' ⟨he, hK, hg⟩
  refine ⟨he, _, hK, h2.apart hg h1.nats, fun j hj => ?_⟩
  have h5 := h3 j hj
  by_cases hjk : j = k
  · subst hjk
    simp at h5 ⊢; omega
  · rw [List.count_cons_of_ne (Ne.symm hjk)] at h5
    rw [if_neg hjk]; exact h5

/-- the third pass: R is taken away, parents are still to be told -/
def Pass3 (w0 : World) (q : KNum) (l : List Ent) (R : List Nat) (rest : List Nat) (w : World) : Prop :=
  rest.length ≤ 1048576 ∧ ∃ f L, KState w0 q (l.map Ent.uid) f L w ∧ Mid3 (parN l) l.length R L rest f
/-- the second pass -/
def Pass2 (w0 : World) (q : KNum) (l : List Ent) (r : Nat) (f : Nat → Nat) (left : Uid → Bool) (cnt : Nat) (w : World) : Prop :=
  ∃ L : List Nat, KState w0 q (l.map Ent.uid) f L w ∧ RangeU w q.B r (idx (l.map Ent.uid)) left cnt ∧ L.Nodup ∧ ∀ k, k ∈ L ↔ k < l.length ∧ skipL (l.map Ent.uid) left k = false ∧ f k = 0
theorem Pass3.later {w0 : World} {q : KNum} {l : List Ent} {R rest : List Nat} {w w' : World} (h : Pass3 w0 q l R rest w) (k : Ext w w') : Pass3 w0 q l R rest w' := by
  obtain ⟨h0, f, L, h1, h2⟩ := h
  exact ⟨h0, f, L, h1.later k, h2⟩
theorem Pass3.tell {w0 : World} {q : KNum} {l : List Ent} {R : List Nat} {k : Nat} {rest : List Nat} {w : World} (h : Pass3 w0 q l R (k :: rest) w) (hk : k < l.length) (hq : q.n = l.length) (hlen : l.length ≤ 1048576) (hps : ∀ e ∈ l, e.ps.length ≤ 1048576) :
    Calls Try.prog 74 (#[.int .i64 k] ++ #[.pointer (some ⟨q.bB, 0, none⟩), .pointer (some ⟨q.bL, 0, none⟩)]) w fun e w' => e = .returned (.tuple #[]) ∧ Pass3 w0 q l R rest w' := by
  obtain ⟨h0, f, L, h1, h2⟩ := h
  have hb := cntOut_le (par := parN l) (s := fun i => decide (i ∈ R)) (k := k) (n := l.length) (M := 1048576) fun i _ => parN_len hps i
  have hm : l.length * 1048576 ≤ 1048576 * 1048576 := Nat.mul_le_mul_right _ hlen
  have h4 := h2.sum k hk
  have hc : (k :: rest).count k ≤ (k :: rest).length := List.count_le_length
  have hpos := h2.told hk
  have hL : L.length ≤ l.length := by
    have := (full_of_length (R := R ++ L) h2.nodup h2.lt).1
    simp at this; omega
  refine (dec_ok w0 q _ f L w k h1 (by rw [hq]; exact hk) (by omega) hpos.1 (by omega)).mono ?_
  rintro e w' ⟨he, hK⟩
  refine ⟨he, by simp at h0; omega, ?_⟩
  by_cases h1 : f k = 1
  · rw [if_pos h1] at hK
    refine ⟨_, _, hK, ?_⟩
    have := h2.last hk h1
    rwa [show (fun j => if j = k then f k - 1 else f j) = fun j => if j = k then 0 else f j from funext fun j => by rw [h1]]
  · rw [if_neg h1] at hK
    exact ⟨_, _, hK, h2.more hk h1⟩
set_option maxRecDepth 100000 in
set_option maxHeartbeats 1600000 in
theorem round_ok (S : Nat → Prop) (l : List Ent) (v : Value) (w : World) (hS : ∀ b, S b → b < w.heap.size) (hl : entR.RowsAt S w l v) (hlen : l.length ≤ 1048576) (hps : ∀ e ∈ l, e.ps.length ≤ 1048576) (hn : (l.map Ent.uid).Nodup) :
    Calls Try.prog 38 #[v] w fun e w' => ∃ r : Bool, e = .returned (.bool r) ∧ (r = true ↔ Rounded l) ∧ Ext w w' := by
  have hl' := hl
  obtain ⟨A, cap, rfl, ⟨hl0, hl1, hl2⟩, hlr⟩ := hl
  rw [LIM_eq] at hl0
  rw [maxLen_eq] at hl2
  have HS := Lib.hid hS
  have HL := Lib.hid hlr
  have HL' := Lib.hid hl'
  have HP := Lib.hid hps
  have HN := Lib.hid hn
  have hml : (l.map Ent.uid).length = l.length := List.length_map _
  have Hml := Lib.hid hml
  have Hdis := Lib.hid (show dis (l.map Ent.uid) l.length = l.length by have := dis_nodup hn; rwa [hml] at this)
  have HFit : Hid (∀ (i : Nat) (e : Ent), l[i]? = some e → FitU e.uid) := Lib.hid fun i e he => by
    obtain ⟨b, o, _, _, hrow⟩ := hlr (by have := (List.getElem?_eq_some_iff.1 he).1; omega)
    obtain ⟨cs, _, _, _, _, h, _⟩ := hrow i e he
    exact h
  clear hS hlr hl' hps hn hml
  obtain ⟨i0, hi, hz0, hz1, hz2⟩ := info_parts Try.info3
  go_enter Try.func38, Try.ntmps38
  go_wp2_with (first | (go_at_call 64; refine (places_ok S l _ _ HS.out HL'.out hlen).mono ?_; rintro e w1 ⟨B, rfl, hm, hb, hx⟩; have HM := Lib.hid hm; have HX1 := Lib.hid hx; have HB := Lib.hid hb; clear hm hx hb) | (at_make; refine wpList_make_row _ rfl _ _ 50 rfl 3 i0 (.int .i64 0) Try.underlying50 hi hz0 hz1 rfl .i64 .i64 l.length rfl rfl (by rw [hz2]; omega) (by omega) ?_) | (at_range; refine wpList_range_uid rfl _ rfl B _ _ rfl (HM.out.ext (((((Ext.refl w1).alloc _).alloc _).alloc _).alloc _)) (w1.heap.size + 1 + 1 + 1 + 1) (by simp) ?_; intro w5 hr hx5 hs5))
  go_frame
  obtain ⟨q, hq⟩ : ∃ q : KNum, q = ⟨w1.heap.size, B, w1.heap.size + 1 + 1, w1.heap.size + 1, w1.heap.size + 1 + 1 + 1, l.length⟩ := ⟨_, rfl⟩
  have hK0 : KState w q (l.map Ent.uid) (fun _ => 0) [] ((((w1.alloc (.cells #[.map (some B)] 87)).alloc (.cells (madeCells #[.int .i64 0] l.length) 3)).alloc (.cells #[.slice (some ⟨w1.heap.size + 1, 0, none⟩) l.length l.length] 50)).alloc (.cells #[.slice none 0 0] 50)) := by
    have hlt := HM.out.lt
    have hB := HB.out
    subst hq
    have e1 : (w1.alloc (.cells #[.map (some B)] 87)).heap.size = w1.heap.size + 1 := by simp
    have e2 : ((w1.alloc (.cells #[.map (some B)] 87)).alloc (.cells (madeCells #[.int .i64 0] l.length) 3)).heap.size = w1.heap.size + 1 + 1 := by simp
    have e3 : (((w1.alloc (.cells #[.map (some B)] 87)).alloc (.cells (madeCells #[.int .i64 0] l.length) 3)).alloc (.cells #[.slice (some ⟨w1.heap.size + 1, 0, none⟩) l.length l.length] 50)).heap.size = w1.heap.size + 1 + 1 + 1 := by simp
    have m0 := OneBox.new w1 (.map (some B)) 87
    have m1 := NatsAt.made (w1.alloc (.cells #[.map (some B)] 87)) l.length
    have m2 := OneBox.new ((w1.alloc (.cells #[.map (some B)] 87)).alloc (.cells (madeCells #[.int .i64 0] l.length) 3)) (.slice (some ⟨w1.heap.size + 1, 0, none⟩) l.length l.length) 50
    have m3 := OneBox.new (((w1.alloc (.cells #[.map (some B)] 87)).alloc (.cells (madeCells #[.int .i64 0] l.length) 3)).alloc (.cells #[.slice (some ⟨w1.heap.size + 1, 0, none⟩) l.length l.length] 50)) (.slice none 0 0) 50
    rw [e1] at m1
    rw [e2] at m2
    rw [e3] at m3
    refine ⟨(((HX1.out.alloc _).alloc _).alloc _).alloc _, ⟨hB, hlt, by simp, by simp, by simp, by simp⟩, ?_, ?_, ?_, ?_, ?_⟩
    · exact ((m0.block (heap_alloc_old _ _ (by simp))).block (heap_alloc_old _ _ (by simp; omega))).block (heap_alloc_old _ _ (by simp; omega))
    · rw [← Hdis.out]
      exact HM.out.ext (((((Ext.refl w1).alloc _).alloc _).alloc _).alloc _)
    · exact m2.block (heap_alloc_old _ _ (by simp))
    · exact (heap_alloc_old _ _ (by simp)).trans ((heap_alloc_old _ _ (by simp)).trans m1)
    · exact ⟨_, m3, World.ownsRow_nil _ _ _ _⟩
  have P0 : Pass1 w q l (w1.heap.size + 1 + 1 + 1 + 1) (fun u => (idx (l.map Ent.uid) u).isSome) (dis (l.map Ent.uid) l.length) [] w5 := by
    refine ⟨_, hK0.later hx5, ?_, fun k hk => ?_⟩
    · rw [hq]; exact hr
    · rw [cntOut_all fun i hi => ?_]
      · rfl
      · obtain ⟨u, hu⟩ : ∃ u, (l.map Ent.uid)[i]? = some u := ⟨_, List.getElem?_eq_getElem (by rw [Hml.out]; exact hi)⟩
        rw [skipL_of hu, idx_of_get HN.out hu]; rfl
  have HP0 := Lib.hid P0
  have Hq := Lib.hid hq
  clear hK0 P0 hr hx5 hs5 hq HM HX1 HB
  go_loopw [8] (fun _ wr => Hid (∃ left cnt, Pass1 w q l (w1.heap.size + 1 + 1 + 1 + 1) left cnt [] wr)) (fun _ wr => wr.rangeLeft B (w1.heap.size + 1 + 1 + 1 + 1))
  case atStart => exact Lib.hid ⟨_, _, HP0.out⟩
  case round =>
    clear HP0
    obtain ⟨left, cnt, f, hk, hrg, hsum⟩ := hrel.out
    have HK := Lib.hid hk
    have HR := Lib.hid hrg
    have HU := Lib.hid hsum
    clear hrel hk hrg hsum
    have hqB : q.B = B := by rw [Hq.out]
    rw [hqB] at HR
    go_wp2_with (at_next; refine wpList_next_uid rfl _ rfl B (w1.heap.size + 1 + 1 + 1 + 1) _ _ _ rfl HR.out ?_ ?_)
    · intro hc0 hl0
      have HC : Hid (∀ k, k < l.length → f k = cntOut (parN l) (fun _ => false) k l.length) := by
        refine Lib.hid fun k hk => ?_
        have h1 := HU.out k hk
        rw [List.count_nil, Nat.add_zero] at h1
        rw [h1]
        refine cntOut_congr fun i hi => ?_
        obtain ⟨e, he⟩ : ∃ e, l[i]? = some e := ⟨_, List.getElem?_eq_getElem hi⟩
        rw [skipL_of (u := e.uid) (by simp [he])]
        exact hl0 e.uid.1 e.uid.2 (HFit.out i e he)
      have c0 := HK.out.at'.cell
      rw [show q.bA = w1.heap.size by rw [Hq.out]] at c0
      have HM2 := Lib.hid (by have := HK.out.map; rwa [hqB] at this)
      clear hl0 HU HR hc0
      obtain ⟨wa, rfl⟩ : ∃ wa : World, wa = wr := ⟨_, rfl⟩
      go_wp2_with (at_range; refine wpList_range_uid rfl _ rfl B _ _ rfl HM2.out wa.heap.size rfl ?_; intro w6 hr6 hx6 hs6)
      go_frame
      have P2 : Pass2 w q l wa.heap.size f (fun u => (idx (l.map Ent.uid) u).isSome) q.n w6 := by
        refine ⟨[], HK.out.later hx6, by rw [hqB]; exact hr6, List.nodup_nil, fun k => ?_⟩
        constructor
        · intro h; simp at h
        · rintro ⟨h1, h2, _⟩
          obtain ⟨e, he⟩ : ∃ e, l[k]? = some e := ⟨_, List.getElem?_eq_getElem h1⟩
          rw [skipL_of (u := e.uid) (by simp [he]), idx_of_get HN.out (i := k) (by simp [he])] at h2
          cases h2
      have HP2 := Lib.hid P2
      have HWA := Lib.hid (show w.heap.size ≤ wa.heap.size from HK.out.ext.size)
      clear P2 hr6 hx6 hs6 c0 HM2 HK
      go_loopw [10] (fun _ wr => Hid (∃ left cnt, Pass2 w q l wa.heap.size f left cnt wr)) (fun _ wr => wr.rangeLeft B wa.heap.size)
      case atStart => exact Lib.hid ⟨_, _, HP2.out⟩
      case round =>
        clear HP2
        obtain ⟨left, cnt, L, hk, hrg, hnd, hmem⟩ := hrel.out
        have HK := Lib.hid hk
        have HR := Lib.hid hrg
        have HD := Lib.hid hnd
        have HU := Lib.hid hmem
        clear hrel hk hrg hnd hmem
        rw [hqB] at HR
        go_wp2_with (at_next; refine wpList_next_uid rfl _ rfl B wa.heap.size _ _ _ rfl HR.out ?_ ?_)
        · intro hc0 hl0
          have hskip : ∀ k, k < l.length → skipL (l.map Ent.uid) left k = false := fun k hk => by
            obtain ⟨e, he⟩ : ∃ e, l[k]? = some e := ⟨_, List.getElem?_eq_getElem hk⟩
            rw [skipL_of (u := e.uid) (by simp [he])]
            exact hl0 e.uid.1 e.uid.2 (HFit.out k e he)
          have P3 : Pass3 w q l [] [] wr := by
            refine ⟨by simp, f, L, HK.out, by simpa using HD.out, fun k hk => ((HU.out k).1 (by simpa using hk)).1, trivial, fun k hk => ?_, fun k hk => ?_⟩
            · rw [List.nil_append, HU.out k]
              exact ⟨fun h => ⟨hk, hskip k hk, h⟩, fun h => h.2.2⟩
            · rw [HC.out k hk, List.count_nil, Nat.add_zero]
              exact cntOut_congr fun i _ => by simp
          have HP3 := Lib.hid P3
          clear P3 hskip hl0 hc0 HR HD HU HK
          obtain ⟨wb, rfl⟩ : ∃ wb : World, wb = wr := ⟨_, rfl⟩
          go_wp2_with fail
          go_loopw [11] (fun g wr => ∃ R : List Nat, g = .int .i64 R.length ∧ Hid (Pass3 w q l R [] wr)) (fun g _ => l.length - (intOf g).toNat)
          case atStart => exact ⟨[], rfl, HP3⟩
          case round =>
            clear HP3
            obtain ⟨R, rfl, HP3⟩ := hrel
            obtain ⟨_, f', L', hk, hm⟩ := HP3.out
            have HK := Lib.hid hk
            have HM := Lib.hid hm
            have hRL := (full_of_length (R := R ++ L') hm.nodup hm.lt).1
            rw [List.length_append] at hRL
            obtain ⟨v, hv, hown⟩ := hk.left
            have hqL : q.bL = w1.heap.size + 1 + 1 + 1 := by rw [Hq.out]
            have HL3 := Lib.hid hqL
            have HV := Lib.hid hv
            rw [hqL] at hv
            have d3 := hv.cell
            have d4 := hv.free
            have c0 := hk.at'.cell
            rw [show q.bA = w1.heap.size by rw [Hq.out]] at c0
            have HM2 := Lib.hid (by have := hk.map; rwa [hqB] at this)
            clear hk hm hv hqL HP3
            rcases (show L' = [] ∨ ∃ L2 i, L' = L2 ++ [i] from (List.eq_nil_or_concat L').imp id fun ⟨a, b, h⟩ => ⟨a, b, by rw [h, List.concat_eq_append]⟩) with rfl | ⟨L2, i, rfl⟩
            · obtain ⟨A', cap', rfl⟩ := own_shape hown
              have HO := Lib.hid hown
              clear hown
              go_wp2_with (refine wpList_len_uid rfl _ rfl B _ _ rfl HM2.out ?_)
              go_ret
              refine ⟨_, rfl, ?_, HK.out.ext⟩
              rw [show q.n = l.length by rw [Hq.out], rounded_of HN.out HM.out]
              simp
            · have hin : i < l.length := HM.out.lt i (by simp)
              obtain ⟨x, hx⟩ : ∃ x, l[i]? = some x := ⟨_, List.getElem?_eq_getElem hin⟩
              have HO := Lib.hid hown
              have hlen2 : (L2 ++ [i]).length = L2.length + 1 := by simp
              rw [hlen2, List.map_append] at hown
              obtain ⟨g, cap', rfl, hg, hnc, hcm, hcells⟩ := own_cells hown (by omega)
              have hcut := ownsRow_cut hown (m := L2.length) (by omega) (by simp)
              have d7 : wr.cell? ⟨g, L2.length, none⟩ = some (.int .i64 i) := by
                have := hcells L2.length (.int .i64 i) (by simp)
                simpa using this
              rw [List.length_append, List.length_singleton] at hRL
              have K2 : Hid (KState w q (l.map Ent.uid) f' L2 (wr.setCell ⟨w1.heap.size + 1 + 1 + 1, 0, none⟩ (.slice (some ⟨g, 0, none⟩) L2.length cap'))) := by
                have := HK.out.lefts HV.out (GrownBy.of_ext _ (Ext.refl _)) HO.out hcut
                rw [HL3.out] at this
                exact Lib.hid this
              have hal : Alike S w (wr.setCell ⟨w1.heap.size + 1 + 1 + 1, 0, none⟩ (.slice (some ⟨g, 0, none⟩) L2.length cap')) := Alike.of_ext K2.out.ext HS.out
              obtain ⟨b, o, rfl, hSb, hrow⟩ := HL.out (by omega)
              obtain ⟨cs, hca, hxa⟩ := hrow i x hx
              have Hca := Lib.hid (hca.alike hSb hal)
              have Hxa := Lib.hid (entR.alike hxa hal)
              have Hcl := Lib.hid (entR.len hxa)
              have HI : Hid (Pass3 w q l (i :: R) (x.ps.filterMap (idx (l.map Ent.uid))) (wr.setCell ⟨w1.heap.size + 1 + 1 + 1, 0, none⟩ (.slice (some ⟨g, 0, none⟩) L2.length cap'))) := by
                refine Lib.hid ⟨Nat.le_trans (List.length_filterMap_le _ _) (HP.out x (List.mem_of_getElem? hx)), f', L2, K2.out, ?_⟩
                have := HM.out.pop
                rwa [parN_of hx] at this
              have HH1 : Hid (∀ rest w1', Pass3 w q l (i :: R) rest w1' → OneBox w1' w1.heap.size (.map (some B)) 87 ∧ MapU w1' B (idx (l.map Ent.uid)) l.length ∧ Alike S (wr.setCell ⟨w1.heap.size + 1 + 1 + 1, 0, none⟩ (.slice (some ⟨g, 0, none⟩) L2.length cap')) w1') := by
                refine Lib.hid ?_
                rintro rest wz ⟨_, f'', L'', hk', _⟩
                have h1 := hk'.at'
                have h2 := hk'.map
                rw [Hq.out] at h1 h2
                exact ⟨h1, h2, fun b hb => (hk'.ext.block b (HS.out b hb)).trans (K2.out.ext.block b (HS.out b hb)).symm⟩
              have HH2 : Hid (∀ k rest w1', k < (l.map Ent.uid).length → Pass3 w q l (i :: R) (k :: rest) w1' →
                  Calls Try.prog 74 (#[.int .i64 k] ++ #[.pointer (some ⟨w1.heap.size + 1 + 1, 0, none⟩), .pointer (some ⟨w1.heap.size + 1 + 1 + 1, 0, none⟩)]) w1' fun e w' => e = .returned (.tuple #[]) ∧ Pass3 w q l (i :: R) rest w') := by
                refine Lib.hid ?_
                intro k rest wz hk hp
                have := hp.tell (by rwa [Hml.out] at hk) (by rw [Hq.out]) hlen HP.out
                rw [show q.bB = w1.heap.size + 1 + 1 by rw [Hq.out], show q.bL = w1.heap.size + 1 + 1 + 1 by rw [Hq.out]] at this
                exact this
              clear hown hcut hcells hg hlen2 hal hca hxa hrow hSb hx HO HM2 c0
              go_wp2_with (first | refine wpList_load_cells rfl 60 _ rfl b (o + i * 11) rfl Try.agg60 Try.size60 Hcl.out Hca.out ?_ | (go_at_call 72; refine (each_ok (l.map Ent.uid) S x cs 74 #[.pointer (some ⟨w1.heap.size + 1 + 1, 0, none⟩), .pointer (some ⟨w1.heap.size + 1 + 1 + 1, 0, none⟩)] Try.enter74 (Pass3 w q l (i :: R)) w1.heap.size B l.length _ HI.out HH1.out (fun _ _ _ h k => h.later k) HH2.out Hxa.out).mono ?_; rintro e w3 ⟨rfl, hi3⟩; have HI3 := Lib.hid hi3; clear hi3))
              go_roundw
              case rel => exact ⟨i :: R, by go_num, HI3⟩
              case measure => simp [intOf]; omega
        · intro ut ui i w2 cnt2 hu hlu hmi hile hrg2 hlt2 hg2 hsz2 hen
          have hui := idx_get hmi
          have hil : i < l.length := by have := idx_lt hmi; rwa [Hml.out] at this
          have hrw : w.heap.size ≤ wa.heap.size := by
            have := HWA.out; omega
          have K2 := Lib.hid (HK.out.other hg2 hrw (by obtain ⟨a, b, c, h⟩ := HR.out.isIter; exact ⟨_, _, _, _, h⟩))
          have HS1 := Lib.hid (skipL_one HN.out hui hlu)
          have HR2 := Lib.hid hrg2
          have Hlt := Lib.hid hlt2
          have c1 := K2.out.bel.cell
          have c2 := K2.out.nats.cell (k := i) (by rw [Hq.out]; exact hil)
          rw [show q.bB = w1.heap.size + 1 + 1 by rw [Hq.out], show q.G = w1.heap.size + 1 by rw [Hq.out], show q.n = l.length by rw [Hq.out]] at c1
          rw [show q.G = w1.heap.size + 1 by rw [Hq.out]] at c2
          clear hui hmi hile hlu hlt2 hg2 hsz2 hrg2 hrw
          by_cases h0 : f i = 0
          · have c2' : w2.cell? ⟨w1.heap.size + 1, i, none⟩ = some (.int .i64 0) := by rw [c2, h0]; rfl
            obtain ⟨v, hv, hown⟩ := K2.out.left
            have hqL : q.bL = w1.heap.size + 1 + 1 + 1 := by rw [Hq.out]
            have HV := Lib.hid hv
            have HO := Lib.hid hown
            have H0 := Lib.hid h0
            rw [hqL] at hv
            have d3 := hv.cell
            have d4 := hv.free
            have hLn : L.length ≤ l.length := (full_of_length HD.out fun k hk => ((HU.out k).1 hk).1).1
            have hbl : q.bL + 1 ≤ w2.heap.size := by have := K2.out.ord; omega
            have HL3 := Lib.hid hqL
            clear c2 h0 hv hown hqL
            go_wp2_with (at_builtin; refine wpList_append_at rfl (.tmp 43) (.tmp 45) 50 rfl (q.bL + 1) 3 i0 (.int .i64 0) 1 8 Try.underlying50 hi hz0 hz1 hz2 rfl (by decide) v L.length (L.map fun k => Value.int .i64 (k : Nat)) rfl (ownsRow_ext HO.out ((Ext.refl _).alloc _)) w2.heap.size 0 1 1 [.int .i64 i] rfl rfl ?q1 ?q2 ?q3 ?q4 ?q5 ?_)
            case q1 => exact cellsAt_new _ _ rfl
            case q2 => simp [Value.oneCell']
            case q3 => rw [maxLen_eq]; omega
            case q4 => omega
            case q5 => simp; omega
            intro v' w3 hown' hgrow hblk
            obtain ⟨A', cap', rfl⟩ := own_shape hown'
            have Hfin := Lib.hid (K2.out.later ((Ext.refl _).alloc (.cells #[.int .i64 i] 3)) |>.lefts (L' := L ++ [i]) (HV.out.block (heap_alloc_old _ _ (Blk_lt HV.out))) hgrow (ownsRow_ext HO.out ((Ext.refl _).alloc _)) (by simpa using hown'))
            have HR3 := Lib.hid ((HR2.out.ext ((Ext.refl _).alloc (.cells #[.int .i64 i] 3))).own hgrow (ownsRow_ext HO.out ((Ext.refl _).alloc _)))
            have hb2 : OneBox w3 q.bL v 50 := HV.out.block ((hgrow.block _ (by have := Blk_lt HV.out; simp; omega) fun e => by have := (HO.out.lt _ e.symm).1; omega).trans (heap_alloc_old _ _ (Blk_lt HV.out)))
            rw [HL3.out] at hb2
            have d5 := hb2.free
            have d6 := hb2.cell
            have HB2 := Lib.hid hb2
            clear hown' hgrow hblk hb2 d3 d4
            go_wp2_with fail
            have hfin : Pass2 w q l wa.heap.size f (fun y => left y && !decide (y = (ut, ui))) cnt2 (w3.setCell ⟨w1.heap.size + 1 + 1 + 1, 0, none⟩ (.slice A' (L.length + 1) cap')) := by
              have h1 := Hfin.out
              rw [HL3.out] at h1
              refine ⟨L ++ [i], h1, ?_, ?_, fun k => ?_⟩
              · rw [hqB]
                exact HR3.out.apart (GrownBy.setCell w3 (w1.heap.size + 1 + 1 + 1) 0 _) HB2.out
              · refine (List.perm_append_singleton i L).nodup_iff.2 (List.nodup_cons.2 ⟨fun h => ?_, HD.out⟩)
                have := ((HU.out i).1 h).2.1
                rw [HS1.out.1] at this; cases this
              · obtain ⟨s1, s2, s3⟩ := HS1.out
                rw [List.mem_append, HU.out k, List.mem_singleton]
                by_cases hki : k = i
                · subst hki
                  rw [s2]
                  exact ⟨fun _ => ⟨hil, rfl, H0.out⟩, fun _ => .inr rfl⟩
                · rw [s3 k hki]; simp [hki]
            have hm3 : (w3.setCell ⟨w1.heap.size + 1 + 1 + 1, 0, none⟩ (.slice A' (L.length + 1) cap')).rangeLeft B wa.heap.size < wr.rangeLeft B wa.heap.size := by
              obtain ⟨_, _, h, _⟩ := hfin
              rw [hqB] at h
              rw [h.left_eq, HR.out.left_eq]; exact Hlt.out
            have HF := Lib.hid hfin
            clear hfin
            go_roundw
            case rel => exact Lib.hid ⟨_, _, HF.out⟩
            case measure => exact hm3
          · have e0 : ((f i : Int) == 0) = false := by simpa using h0
            have H0 := Lib.hid h0
            clear h0
            go_wp2_with fail
            have hm3 : w2.rangeLeft B wa.heap.size < wr.rangeLeft B wa.heap.size := by
              rw [HR2.out.left_eq, HR.out.left_eq]; exact Hlt.out
            have hfin : Pass2 w q l wa.heap.size f (fun y => left y && !decide (y = (ut, ui))) cnt2 w2 := by
              refine ⟨L, K2.out, by rw [hqB]; exact HR2.out, HD.out, fun k => ?_⟩
              rw [HU.out k]
              obtain ⟨s1, s2, s3⟩ := HS1.out
              by_cases hki : k = i
              · subst hki
                rw [s1]; simp [H0.out]
              · rw [s3 k hki]
            go_roundw
            case rel => exact Lib.hid ⟨_, _, hfin⟩
            case measure => exact hm3
    · intro ut ui i w2 cnt2 hu hlu hmi hile hrg2 hlt2 hg2 hsz2 hen
      have hui := idx_get hmi
      obtain ⟨x, hx, hxu⟩ : ∃ x, l[i]? = some x ∧ x.uid = (ut, ui) := by
        rw [List.getElem?_map] at hui
        exact Option.map_eq_some_iff.1 hui
      have hil := (List.getElem?_eq_some_iff.1 hx).1
      have hrw : w.heap.size ≤ w1.heap.size + 1 + 1 + 1 + 1 := by
        have := HK.out.ord; rw [Hq.out] at this; simp at this; omega
      have K2 := Lib.hid (HK.out.other hg2 hrw (by obtain ⟨a, b, c, h⟩ := HR.out.isIter; exact ⟨_, _, _, _, h⟩))
      obtain ⟨b, o, rfl, hSb, hrow⟩ := HL.out (by omega)
      obtain ⟨cs, hca, hxa⟩ := hrow i x hx
      have hal : Alike S w w2 := Alike.of_ext K2.out.ext HS.out
      have Hca := Lib.hid (hca.alike hSb hal)
      have Hxa := Lib.hid (entR.alike hxa hal)
      have HI : Hid (Pass1 w q l (w1.heap.size + 1 + 1 + 1 + 1) (fun y => left y && !decide (y = (ut, ui))) cnt2 (x.ps.filterMap (idx (l.map Ent.uid))) w2) := by
        refine Lib.hid ⟨f, K2.out, by rw [hqB]; exact hrg2, fun k hk => ?_⟩
        obtain ⟨s1, s2, s3⟩ := skipL_one HN.out hui hlu
        rw [cntOut_one s1 s2 s3 hil, ← HU.out k hk, parN_of hx]; simp
      have Hcl := Lib.hid (entR.len hxa)
      have Hlt := Lib.hid hlt2
      clear hui hx hxu hmi hile hlu hlt2 hg2 hsz2 hrg2 hca hxa hal hrow hSb hrw
      have HH1 : Hid (∀ rest w1', Pass1 w q l (w1.heap.size + 1 + 1 + 1 + 1) (fun y => left y && !decide (y = (ut, ui))) cnt2 rest w1' → OneBox w1' w1.heap.size (.map (some B)) 87 ∧ MapU w1' B (idx (l.map Ent.uid)) l.length ∧ Alike S w2 w1') := by
        refine Lib.hid ?_
        rintro rest wz ⟨f', hk', _⟩
        have h1 := hk'.at'
        have h2 := hk'.map
        rw [Hq.out] at h1 h2
        exact ⟨h1, h2, fun b hb => (hk'.ext.block b (HS.out b hb)).trans (K2.out.ext.block b (HS.out b hb)).symm⟩
      have HH2 : Hid (∀ k rest w1', k < (l.map Ent.uid).length → Pass1 w q l (w1.heap.size + 1 + 1 + 1 + 1) (fun y => left y && !decide (y = (ut, ui))) cnt2 (k :: rest) w1' →
          Calls Try.prog 73 (#[.int .i64 k] ++ #[.pointer (some ⟨w1.heap.size + 1 + 1, 0, none⟩)]) w1' fun e w' => e = .returned (.tuple #[]) ∧ Pass1 w q l (w1.heap.size + 1 + 1 + 1 + 1) (fun y => left y && !decide (y = (ut, ui))) cnt2 rest w') := by
        refine Lib.hid ?_
        intro k rest wz hk hp
        have := hp.tell (by rwa [Hml.out] at hk) (by rw [Hq.out]) hlen HP.out
        rw [show q.bB = w1.heap.size + 1 + 1 by rw [Hq.out]] at this
        exact this
      go_wp2_with (first | refine wpList_load_cells rfl 60 _ rfl b (o + i * 11) rfl Try.agg60 Try.size60 Hcl.out Hca.out ?_ | (go_at_call 72; refine (each_ok (l.map Ent.uid) S x cs 73 #[.pointer (some ⟨w1.heap.size + 1 + 1, 0, none⟩)] Try.enter73 (Pass1 w q l (w1.heap.size + 1 + 1 + 1 + 1) (fun y => left y && !decide (y = (ut, ui))) cnt2) w1.heap.size B l.length w2 HI.out HH1.out (fun _ _ _ h k => h.later k) HH2.out Hxa.out).mono ?_; rintro e w3 ⟨rfl, hi3⟩; have HI3 := Lib.hid hi3; clear hi3))
      have hm3 : w3.rangeLeft B (w1.heap.size + 1 + 1 + 1 + 1) < wr.rangeLeft B (w1.heap.size + 1 + 1 + 1 + 1) := by
        obtain ⟨f', _, h, _⟩ := HI3.out
        rw [hqB] at h
        rw [h.left_eq, HR.out.left_eq]; exact Hlt.out
      go_roundw
      case rel => exact Lib.hid ⟨_, _, HI3.out⟩
      case measure => exact hm3
end Go.Proofs.Ytpkgkabcikmopaa
