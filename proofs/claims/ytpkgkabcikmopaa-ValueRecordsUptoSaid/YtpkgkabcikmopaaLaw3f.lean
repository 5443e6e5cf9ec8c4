/-
  The walk of layer 3's law ValueRecords: it answers true. The conditions: the arguments are slices of strings and of numbers that lie in old memory.
-/
import Derived.Test.YtpkgkabcikmopaaLaw3a
import Derived.Test.YtpkgkabcikmopaaRead3
import Derived.Test.YtpkgkabcikmopaaRecsP
import Derived.Test.YtpkgkabcikmopaaPush
import Derived.Test.YtpkgkabcikmopaaStage
namespace Go.Proofs.Ytpkgkabcikmopaa
open Go.RowKit

theorem Try.elemI : Try.prog.underlying 44 = some (.slice (Try.prog.elem 44)) := by kernel_rfl
theorem Try.elemIs : ∀ w, (Go.sizeOf (Try.prog.elem 44)).run Try.prog w = .ok 1 w := fun _ => by kernel_rfl
theorem Try.agg2 : ∀ w, (isAgg 2).run Try.prog w = .ok false w := fun _ => by kernel_rfl

theorem num_at_all {n : Int} (h : (Lit.int .i64 n).wf = true) (w : World) : Val.At (fun _ => False) w (Val.numV n) (numC n) :=
  Val.num_at _ _ _ (by simpa [Lit.wf, IntKind.min, IntKind.max, IntKind.signed, IntKind.bits, I64] using h)

/-- the names so far, given twice -/
def Twice (l : List ByteArray) : Bool := !decide l.Nodup
def TwiceAt (l : List ByteArray) (x : ByteArray) (j : Nat) : Bool := (l.take j).any fun y => y.toList == x.toList
theorem Twice.zero : Twice [] = false := by simp [Twice]
theorem TwiceAt.zero (l : List ByteArray) (x : ByteArray) : TwiceAt l x 0 = false := by simp [TwiceAt]
theorem TwiceAt.next {l : List ByteArray} {x y : ByteArray} {j : Nat} (h : l[j]? = some y) : TwiceAt l x (j + 1) = (TwiceAt l x j || (y.toList == x.toList)) := by
  unfold TwiceAt
  rw [take_succ_of h]
  simp
theorem TwiceAt.mem {l : List ByteArray} {x : ByteArray} {k : Nat} : TwiceAt l x k = true ↔ x ∈ l.take k := by
  unfold TwiceAt
  rw [List.any_eq_true]
  constructor
  · rintro ⟨y, hy, he⟩
    have : y = x := toList_inj (by simpa using he)
    exact this ▸ hy
  · intro h; exact ⟨x, h, by simp⟩
theorem Twice.next {l : List ByteArray} {x : ByteArray} {k : Nat} (h : l[k]? = some x) : Twice (l.take (k + 1)) = (Twice (l.take k) || TwiceAt l x k) := by
  rw [Bool.eq_iff_iff, Bool.or_eq_true, TwiceAt.mem]
  unfold Twice
  rw [take_succ_of h]
  simp only [Bool.not_eq_true', decide_eq_false_iff_not, List.nodup_append]
  constructor
  · intro h1
    by_cases h2 : (l.take k).Nodup
    · refine .inr (Classical.byContradiction fun h3 => h1 ⟨h2, by simp, fun a ha b hb e => ?_⟩)
      simp at hb; subst hb; subst e; exact h3 ha
    · exact .inl h2
  · rintro (h1 | h1) ⟨h2, _, h3⟩
    · exact h1 h2
    · exact h3 x h1 x (by simp) rfl

/-- what the asking leaves, operation by operation -/
def getΦ (W : World) (cC : List Value) (vn ptr : Value) (k : Nat) (nm : ByteArray) (y : Val) (b : Bool) (i : Nat) (x : Value) (w : World) : Prop := match i with
  | 0 => x = .agg cC.toArray
  | 1 => x = vn
  | 2 => x = .int .i64 k
  | 3 => x = ptr
  | 4 => x = .string nm
  | 5 => W.heap.size ≤ w.heap.size ∧ ∃ cs : List Value, x = .tuple #[.agg cs.toArray, .bool b] ∧ Val.At (fun b => b < W.heap.size) w y cs
  | 6 => W.heap.size ≤ w.heap.size ∧ ∃ cs : List Value, x = .tuple #[.agg cs.toArray, .bool b] ∧ Val.At (fun b => b < W.heap.size) w y cs
  | 7 => W.heap.size ≤ w.heap.size ∧ ∃ cs : List Value, x = .agg cs.toArray ∧ Val.At (fun b => b < W.heap.size) w y cs
  | 8 => x = .bool b
  | _ => True
theorem getΦ.ext {W : World} {cC : List Value} {vn ptr : Value} {k : Nat} {nm : ByteArray} {y : Val} {b : Bool} (i : Nat) (x : Value) (w w' : World) (h : Ext w w') (hp : getΦ W cC vn ptr k nm y b i x w) : getΦ W cC vn ptr k nm y b i x w' := by
  have al : W.heap.size ≤ w.heap.size → Alike (fun b => b < W.heap.size) w w' := fun hs => Alike.of_ext h fun b hb => Nat.lt_of_lt_of_le hb hs
  unfold getΦ at hp ⊢
  split at hp
  · exact hp
  · exact hp
  · exact hp
  · exact hp
  · exact hp
  · obtain ⟨hs, cs, e, ha⟩ := hp; exact ⟨Nat.le_trans hs h.size, cs, e, ha.alike (al hs)⟩
  · obtain ⟨hs, cs, e, ha⟩ := hp; exact ⟨Nat.le_trans hs h.size, cs, e, ha.alike (al hs)⟩
  · obtain ⟨hs, cs, e, ha⟩ := hp; exact ⟨Nat.le_trans hs h.size, cs, e, ha.alike (al hs)⟩
  · exact hp
  · trivial
theorem getΦ.at0 {W : World} {cC : List Value} {vn ptr : Value} {k : Nat} {nm : ByteArray} {y : Val} {b : Bool} {x : Value} {w : World} (h : getΦ W cC vn ptr k nm y b 0 x w) : x = .agg cC.toArray := h
theorem getΦ.at4 {W : World} {cC : List Value} {vn ptr : Value} {k : Nat} {nm : ByteArray} {y : Val} {b : Bool} {x : Value} {w : World} (h : getΦ W cC vn ptr k nm y b 4 x w) : x = .string nm := h
/-- the asking, with the box and the store into it -/
def GetJ (W : World) (cC : List Value) (vn ptr : Value) (k : Nat) (nm : ByteArray) (y : Val) (b : Bool) (L : Nat → Bool) (xs : List Value) (w : World) : Prop :=
  Ext W w ∧ (∀ i, i < 9 → L i = true → getΦ W cC vn ptr k nm y b i (xs.getD i undef) w) ∧
    (L 9 = true → ∃ g cur, xs.getD 9 undef = .pointer (some ⟨g, 0, none⟩) ∧ W.heap.size ≤ g ∧ w.heap[g]? = some (.cells cur 27 (0, 0)) ∧ cur.size = 8 ∧ (L 10 = true → ∃ cs : List Value, cur = cs.toArray ∧ Val.At (fun b => b < W.heap.size) w y cs))
section
variable {W : World} {cC : List Value} {vn ptr : Value} {k : Nat} {nm : ByteArray} {y : Val} {b : Bool} {L : Nat → Bool} {xs : List Value} {w w' : World}
theorem GetJ.start (xs : List Value) : GetJ W cC vn ptr k nm y b (fun _ => false) xs W.drew := ⟨⟨⟨rfl, rfl, rfl, Nat.le_refl _, fun _ _ => rfl⟩, Nat.le_succ _⟩, fun _ _ h => (by cases h), fun h => (by cases h)⟩
theorem GetJ.congr {L' : Nat → Bool} (he : ∀ i, i < 11 → L i = L' i) (h : GetJ W cC vn ptr k nm y b L xs w) : GetJ W cC vn ptr k nm y b L' xs w := by
  obtain ⟨h1, h2, h3⟩ := h
  refine ⟨h1, fun i hi hl => h2 i hi (by rw [he i (by omega)]; exact hl), fun h9 => ?_⟩
  obtain ⟨g, cur, e1, e2, e3, e4, e5⟩ := h3 (by rw [he 9 (by omega)]; exact h9)
  exact ⟨g, cur, e1, e2, e3, e4, fun h10 => e5 (by rw [he 10 (by omega)]; exact h10)⟩
theorem getD_set_self {xs : List Value} {i : Nat} {v : Value} (h : i < xs.length) : (xs.set i v).getD i undef = v := by rw [List.getD_eq_getElem?_getD, List.getElem?_set_self h]; rfl
theorem getD_set_other {xs : List Value} {i j : Nat} {v : Value} (h : j ≠ i) : (xs.set i v).getD j undef = xs.getD j undef := by rw [List.getD_eq_getElem?_getD, List.getElem?_set_ne (Ne.symm h), ← List.getD_eq_getElem?_getD]
/-- one of the first nine -/
theorem GetJ.one {i : Nat} {v : Value} (h : GetJ W cC vn ptr k nm y b L xs w) (hl : xs.length = 11) (hi : i < 9) (hx : Ext w w') (hv : getΦ W cC vn ptr k nm y b i v w') : GetJ W cC vn ptr k nm y b (done L i) (xs.set i v) w' := by
  obtain ⟨h1, h2, h3⟩ := h
  refine ⟨h1.trans hx, fun j hj hjl => ?_, fun h9 => ?_⟩
  · by_cases hji : j = i
    · subst hji; rw [getD_set_self (by omega)]; exact hv
    · rw [getD_set_other hji]; rw [done_ne hji] at hjl
      exact getΦ.ext j _ w w' hx (h2 j hj hjl)
  · rw [done_ne (by omega)] at h9
    obtain ⟨g, cur, e1, e2, e3, e4, e5⟩ := h3 h9
    refine ⟨g, cur, by rw [getD_set_other (by omega)]; exact e1, e2, (hx.block g (Blk_lt e3)).trans e3, e4, fun h10 => ?_⟩
    rw [done_ne (by omega)] at h10
    obtain ⟨cs, f1, f2⟩ := e5 h10
    exact ⟨cs, f1, f2.alike (Alike.of_ext hx fun b hb => Nat.lt_of_lt_of_le hb h1.size)⟩
/-- the box -/
theorem GetJ.box (h : GetJ W cC vn ptr k nm y b L xs w) (hl : xs.length = 11) (h10 : L 10 = false) : GetJ W cC vn ptr k nm y b (done L 9) (xs.set 9 (.pointer (some ⟨w.heap.size, 0, none⟩))) (w.alloc (.cells zeroCells.toArray 27)) := by
  obtain ⟨h1, h2, h3⟩ := h
  have hx : Ext w (w.alloc (.cells zeroCells.toArray 27)) := (Ext.refl w).alloc _
  refine ⟨h1.trans hx, fun j hj hjl => ?_, fun _ => ⟨w.heap.size, zeroCells.toArray, getD_set_self (by omega), h1.size, heap_alloc_new w _, rfl, fun h => ?_⟩⟩
  · rw [getD_set_other (by omega)]; rw [done_ne (by omega)] at hjl
    exact getΦ.ext j _ w _ hx (h2 j hj hjl)
  · rw [done_ne (by omega), h10] at h; cases h
/-- the store -/
theorem GetJ.store {g : Nat} {cur : Array Value} {cs : List Value} (h : GetJ W cC vn ptr k nm y b L xs w) (hg : xs.getD 9 undef = .pointer (some ⟨g, 0, none⟩)) (hgW : W.heap.size ≤ g) (hc : w.heap[g]? = some (.cells cur 27 (0, 0))) (ha : Val.At (fun b => b < W.heap.size) w y cs) :
    GetJ W cC vn ptr k nm y b (done L 10) (xs.set 10 undef) (w.setRow g cs.toArray) := by
  obtain ⟨h1, h2, h3⟩ := h
  have hb : ∀ b, b < W.heap.size → (w.setRow g cs.toArray).heap[b]? = w.heap[b]? := fun b hb => (GrownBy.setRow w g cs.toArray).block b (Nat.lt_of_lt_of_le hb h1.size) (fun e => by injection e with e; omega)
  have hs : (w.setRow g cs.toArray).heap.size = w.heap.size := by simp [World.setRow]
  have al : Alike (fun b => b < W.heap.size) w (w.setRow g cs.toArray) := fun b hb' => hb b hb'
  refine ⟨h1.setRow hgW _, fun j hj hjl => ?_, fun _ => ⟨g, cs.toArray, by rw [getD_set_other (by omega)]; exact hg, hgW, heap_setRow hc _, by simpa using ha.length, fun _ => ⟨cs, rfl, ha.alike al⟩⟩⟩
  rw [getD_set_other (by omega)]; rw [done_ne (by omega)] at hjl
  have hp := h2 j hj hjl
  unfold getΦ at hp ⊢
  split at hp
  · exact hp
  · exact hp
  · exact hp
  · exact hp
  · exact hp
  · obtain ⟨hs', cs', e, ha'⟩ := hp; exact ⟨by rw [hs]; exact hs', cs', e, ha'.alike al⟩
  · obtain ⟨hs', cs', e, ha'⟩ := hp; exact ⟨by rw [hs]; exact hs', cs', e, ha'.alike al⟩
  · obtain ⟨hs', cs', e, ha'⟩ := hp; exact ⟨by rw [hs]; exact hs', cs', e, ha'.alike al⟩
  · exact hp
  · trivial
end
theorem list11 {α : Type} {l : List α} (h : l.length = 11) : ∃ a0 a1 a2 a3 a4 a5 a6 a7 a8 a9 a10, l = [a0, a1, a2, a3, a4, a5, a6, a7, a8, a9, a10] := by
  match l, h with
  | [_, _, _, _, _, _, _, _, _, _, _], _ => exact ⟨_, _, _, _, _, _, _, _, _, _, _, rfl⟩
theorem list9 {α : Type} {l : List α} (h : l.length = 9) : ∃ a0 a1 a2 a3 a4 a5 a6 a7 a8, l = [a0, a1, a2, a3, a4, a5, a6, a7, a8] := by
  match l, h with
  | [_, _, _, _, _, _, _, _, _], _ => exact ⟨_, _, _, _, _, _, _, _, _, rfl⟩
theorem list8 {α : Type} {l : List α} (h : l.length = 8) : ∃ a0 a1 a2 a3 a4 a5 a6 a7, l = [a0, a1, a2, a3, a4, a5, a6, a7] := by
  match l, h with
  | [_, _, _, _, _, _, _, _], _ => exact ⟨_, _, _, _, _, _, _, _, rfl⟩

theorem InW.strs {W : World} {v : Val} {v0 v1 v2 v3 v4 v5 v6 v7 : Value} (h : InW W v [v0, v1, v2, v3, v4, v5, v6, v7]) : StrsAt (fun b => b < W.heap.size) W v.names v7 := by
  cases v
  exact Val.At.strs h

set_option maxRecDepth 100000 in
set_option maxHeartbeats 3200000 in
theorem valueRecords_walk (names : List ByteArray) (nums : List Int) (w : World) (vn vi : Value) (hn : StrsAt (fun b => b < w.heap.size) w names vn) (hi : IntsAt .i64 (fun b => b < w.heap.size) w nums vi) :
    Calls Try.prog 8 #[vn, vi] w fun e w' => e = .returned (.bool true) ∧ Ext w w' := by
  obtain ⟨An, capn, rfl, ln0, ln1, ln2, hns, hnr⟩ := hn
  obtain ⟨Ai, capi, rfl, li0, li1, li2, his, hir⟩ := hi
  rw [LIM_eq] at ln0 li0
  rw [maxLen_eq] at ln2 li2
  have HNs := Lib.hid hns
  have HNr := Lib.hid hnr
  have HIs := Lib.hid his
  have HIr := Lib.hid hir
  clear hns hnr his hir
  obtain ⟨iS, hiS, hzS, hsS, hbS⟩ := info_parts Try.info9
  obtain ⟨iV, hiV, hzV, hsV, hbV⟩ := info_parts Try.info27
  go_enter Try.func8, Try.ntmps8
  go_wp2_with fail
  refine (awake3_ok _).mono ?_
  rintro e w1 ⟨rfl, hx1⟩
  have HX1 := Lib.hid hx1
  clear hx1
  by_cases hlt : nums.length < names.length
  case' pos =>
    have t0 : decide ((nums.length : Int) < names.length) = true := by simp; omega
    obtain ⟨n, hn⟩ : ∃ n : Nat, n = nums.length := ⟨_, rfl⟩
    have hn1 : n ≤ names.length := by omega
    have hn2 : n ≤ nums.length := by omega
    by_cases h15 : 15 < n
    case pos =>
      have t1 : decide ((15 : Int) < nums.length) = true := by simp; omega
      clear h15
      go_wp2_with fail
      go_ret
      exact ⟨rfl, HX1.out⟩
    have t1 : decide ((15 : Int) < nums.length) = false := by simp; omega
    have hn15 : n ≤ 15 := by omega
    clear h15
    go_wp2_with fail
    rw [show Value.int .i64 (nums.length : Int) = .int .i64 (n : Int) by rw [hn]]
  case' neg =>
    have t0 : decide ((nums.length : Int) < names.length) = false := by simp; omega
    obtain ⟨n, hn⟩ : ∃ n : Nat, n = names.length := ⟨_, rfl⟩
    have hn1 : n ≤ names.length := by omega
    have hn2 : n ≤ nums.length := by omega
    by_cases h15 : 15 < n
    case pos =>
      have t1 : decide ((15 : Int) < names.length) = true := by simp; omega
      clear h15
      go_wp2_with fail
      go_ret
      exact ⟨rfl, HX1.out⟩
    have t1 : decide ((15 : Int) < names.length) = false := by simp; omega
    have hn15 : n ≤ 15 := by omega
    clear h15
    go_wp2_with fail
    rw [show Value.int .i64 (names.length : Int) = .int .i64 (n : Int) by rw [hn]]
  all_goals
    clear t0 hlt hn
    obtain ⟨W0, hW0⟩ : ∃ W0, W0 = w1.alloc (.cells #[.int .i64 6, .bool false, .int .i64 0, .string { data := #[] }, .string { data := #[] }, .string { data := #[] }, .slice none 0 0, .slice none 0 0] 27) := ⟨_, rfl⟩
    have hO : w1.heap.size < W0.heap.size := by rw [hW0]; simp
    have hx0 : Ext w1 W0 := by rw [hW0]; exact (Ext.refl w1).alloc _
    have hm0 : Ins (fun _ => False) W0 w1.heap.size 6 (nums.take 0 |>.map Val.numV) (names.take 0) W0 := by
      refine ⟨GrownBy.of_ext _ (Ext.refl _), .slice none 0 0, .slice none 0 0, [], ?_, World.ownsRow_nil _ _ _ _, World.ownsRow_nil _ _ _ _, by simp [Flat]⟩
      rw [hW0]; exact heap_alloc_new w1 _
    rw [← hW0]
    have HX0 := Lib.hid hx0
    have HM0 := Lib.hid hm0
    have HO := Lib.hid hO
    clear hW0 hx0 hm0 t1 hO
    go_loopw [8, 9] (fun u8 u9 wr => ∃ k : Nat, k ≤ n ∧ u9 = .int .i64 k ∧ u8 = .bool (Twice (names.take k)) ∧ Hid (Ins (fun _ => False) W0 w1.heap.size 6 ((nums.take k).map Val.numV) (names.take k) wr)) (fun _ u9 _ => n - (intOf u9).toNat)
    case atStart => exact ⟨0, Nat.zero_le _, rfl, by simp [Twice], HM0⟩
    case round =>
      obtain ⟨k, hk, rfl, rfl, HM⟩ := hrel
      have HXr : Hid (Ext w1 wr) := Lib.hid ⟨HX0.out.toBelow.trans ⟨HM.out.grown.os, HM.out.grown.tape, HM.out.grown.output, HM.out.grown.size, fun b hb => HM.out.grown.block b (Nat.lt_of_lt_of_le hb HX0.out.size) (fun e => by injection e with e; omega)⟩, Nat.le_trans HX0.out.drawn HM.out.grown.drawn⟩
      by_cases hlt : k < n
      · obtain ⟨nm, hnm⟩ : ∃ nm, names[k]? = some nm := ⟨_, List.getElem?_eq_getElem (by omega)⟩
        obtain ⟨nb, hnb⟩ : ∃ nb, nums[k]? = some nb := ⟨_, List.getElem?_eq_getElem (by omega)⟩
        obtain ⟨bn, on, rfl, hbn, hcn⟩ := HNr.out (by omega)
        obtain ⟨bi, oi, rfl, hbi, hci⟩ := HIr.out (by omega)
        have hcn' := hcn.alike (S := fun b => b < w.heap.size) hbn (Alike.of_ext (HX1.out.trans HXr.out) fun _ h => h)
        have hci' := hci.alike (S := fun b => b < w.heap.size) hbi (Alike.of_ext (HX1.out.trans HX0.out) fun _ h => h)
        have HCn := Lib.hid hcn'
        have HCi := Lib.hid hci'
        have Hnm := Lib.hid hnm
        have Hnb := Lib.hid hnb
        have Hbn : Hid (bn < wr.heap.size) := Lib.hid (Nat.lt_of_lt_of_le hbn (HX1.out.trans HXr.out).size)
        have Hbn0 : Hid (bn < w1.heap.size) := Lib.hid (Nat.lt_of_lt_of_le hbn HX1.out.size)
        have Hbi0 : Hid (bi < w1.heap.size) := Lib.hid (Nat.lt_of_lt_of_le hbi HX1.out.size)
        clear hnm hnb hcn hci hcn' hci' hbn hbi
        go_wp2_with fail
        rename World => v0
        go_loopw [8, 10] (fun u8 u10 v1 => ∃ j : Nat, j ≤ k ∧ u10 = .int .i64 j ∧ u8 = .bool (Twice (names.take k) || TwiceAt names nm j) ∧ Ext v0 v1) (fun _ u10 _ => k - (intOf u10).toNat)
        case atStart => exact ⟨0, Nat.zero_le _, rfl, by rw [TwiceAt.zero, Bool.or_false], Ext.refl v0⟩
        case round =>
          obtain ⟨j, hj, rfl, rfl, hext⟩ := hrel
          have HXj := Lib.hid hext
          clear hext
          by_cases hlj : j < k
          · obtain ⟨mj, hmj⟩ : ∃ mj, names[j]? = some mj := ⟨_, List.getElem?_eq_getElem (by omega)⟩
            have hc2 := HCn.out.alike (S := fun b => b < v0.heap.size) Hbn.out (Alike.of_ext HXj.out fun _ h => h)
            have f0 := cell_regrown (show wr.cell? ⟨bn, on + j, none⟩ = some (.string mj) from hc2 j _ (by rw [List.getElem?_map, hmj]; rfl))
            have f1 := cell_regrown (show wr.cell? ⟨bn, on + k, none⟩ = some (.string nm) from hc2 k _ (by rw [List.getElem?_map, Hnm.out]; rfl))
            have Hmj := Lib.hid hmj
            have q1 : k < names.length := by omega
            have q2 : j < names.length := by omega
            clear hc2 hmj
            obtain ⟨tb, htb⟩ : ∃ tb, tb = (Twice (names.take k) || TwiceAt names nm j) := ⟨_, rfl⟩
            rw [← htb]
            have Htb := Lib.hid htb
            clear htb
            cases tb
            all_goals
              go_wp2_with fail
              refine region_later (by kernel_rfl) (by kernel_rfl) ?_
              repeat (go_big_quiet_step (fail))
              refine wpQuiet_nil ?_
              intro x3 hx3
              have HX3 := Lib.hid hx3
              clear hx3 f0 f1
              go_wp2_with fail
              go_roundw
              case rel => exact ⟨j + 1, by omega, by go_num, by rw [TwiceAt.next Hmj.out, ← Bool.or_assoc, ← Htb.out]; simp, HXj.out.trans HX3.out⟩
              case measure => simp [intOf]; omega
          · have hje : k = j := by omega
            subst hje
            rw [← Twice.next Hnm.out]
            obtain ⟨I, Nv, xs, hO, hI, hN, hf⟩ := HM.out.rows
            have hO3 := (HXj.out.block _ (Blk_lt hO)).trans hO
            have hI3 := ownsRow_ext hI HXj.out
            have hN3 := ownsRow_ext hN HXj.out
            have hc3 := HCn.out.alike (S := fun b => b < v0.heap.size) Hbn.out (Alike.of_ext HXj.out fun _ h => h)
            have hBl : W0.heap.size ≤ wr.heap.size := Nat.le_trans HM.out.grown.size HXj.out.size
            have hkn : (names.take k).length = k := by rw [List.length_take]; omega
            have hki : ((nums.take k).map Val.numV).length = k := by rw [List.length_map, List.length_take]; omega
            have HO3 := Lib.hid hO3
            have HI := Lib.hid hI
            have HI3 := Lib.hid hI3
            have HN3 := Lib.hid hN3
            have HN := Lib.hid hN
            have HF := Lib.hid hf
            have HC3 := Lib.hid hc3
            have HBl := Lib.hid hBl
            have HKn := Lib.hid hkn
            have HKi := Lib.hid hki
            clear hO hI hN hf hO3 hI3 hN3 hc3 hBl hkn hki
            go_wp2_with fail
            refine one_region (w3 := wr) (B := W0.heap.size) (T := 9) (TS := 25) (size := 1) (bytes := 16) (R := Nv) (k := k) (xs0 := (names.take k).map Value.string) (news := [.string nm])
              (vals := [.pointer (some ⟨w1.heap.size, 7, none⟩), Nv, .slice (some ⟨bn, on, none⟩) names.length capn, .int .i64 k, .pointer (some ⟨bn, on + k * 1, none⟩), .string nm]) (it := iS) (z := .string ByteArray.empty) 8 52 5 1 (by kernel_rfl) rfl (by kernel_rfl) (fun i hi => ?_)
              Try.underlying25 hiS hzS hsS hbS rfl (by decide) (by simp) (by simp) rfl ⟨_, rfl, rfl⟩ ⟨_, rfl, rfl⟩ ⟨by kernel_rfl, by kernel_rfl, by kernel_rfl⟩ (fun W => Try.build25 nm W) rfl (by intro u hu; simp at hu; subst hu; rfl) (by simp) (by have h := HN3.out; rw [HKn.out] at h; exact h) HBl.out (by rw [maxLen_eq]; omega) (by omega) (fun i op hi ho ys W hiv hold hvat Q' K hK => ?_) ?_
            · rcases (by omega : i = 0 ∨ i = 1 ∨ i = 2 ∨ i = 3 ∨ i = 4 ∨ i = 5 ∨ i = 6 ∨ i = 7) with rfl | rfl | rfl | rfl | rfl | rfl | rfl | rfl <;> exact ⟨_, rfl, rfl, rfl⟩
            · have hNb : ∀ b, Nv.ownBlock = some b → W0.heap.size ≤ b := fun b hb => (HN3.out.lt b hb).1
              have cO : ∀ j u, wr.cell? ⟨w1.heap.size, j, none⟩ = some u → W.cell? ⟨w1.heap.size, j, none⟩ = some u := fun j u h => (World.cell?_of_block (a := ⟨w1.heap.size, j, none⟩) (hiv.block w1.heap.size (Blk_lt HO3.out) (fun e => by have := hNb _ e; have := HO.out; omega) (fun e => by have := hNb _ e; have := HO.out; omega))).trans h
              have cN : ∀ j u, wr.cell? ⟨bn, j, none⟩ = some u → W.cell? ⟨bn, j, none⟩ = some u := fun j u h => (World.cell?_of_block (a := ⟨bn, j, none⟩) (hiv.block bn (by have := Hbn0.out; have := HO.out; have := HBl.out; omega) (fun e => by have := hNb _ e; have := HO.out; have := Hbn0.out; omega) (fun e => by have := hNb _ e; have := HO.out; have := Hbn0.out; omega))).trans h
              rcases (by simp at hi; omega : i = 0 ∨ i = 1 ∨ i = 2 ∨ i = 3 ∨ i = 4 ∨ i = 5) with rfl | rfl | rfl | rfl | rfl | rfl <;> obtain rfl := Option.some.inj ho
              · exact wp_value (exec_field _ _ _ rfl (hold 7 (by omega)) (Try.field27 w1.heap.size).1) hK
              · exact wp_value (exec_load_one _ _ rfl w1.heap.size 7 (hvat 0 (by simp) (by kernel_rfl)) Try.agg25 (cO 7 Nv (by rw [cell_of_row _ _ _ _ _ _ HO3.out]; rfl))) hK
              · exact wp_value (exec_move rfl (hold 0 (by omega))) hK
              · exact wp_value (exec_move rfl (hold 9 (by omega))) hK
              · exact wp_value (exec_index rfl (hvat 2 (by simp) (by kernel_rfl)) (hvat 3 (by simp) (by kernel_rfl)) Try.elemS Try.elemSs (by omega)) hK
              · exact wp_value (exec_load_one _ _ rfl bn (on + k * 1) (hvat 4 (by simp) (by kernel_rfl)) Try.agg9 (cN _ _ (by rw [Nat.mul_one]; exact HC3.out k _ (by rw [List.getElem?_map, Hnm.out]; rfl)))) hK
            intro ys w4 hyl hinv hys hlong
            obtain ⟨y0, y1, y2, y3, y4, y5, y6, y7, rfl⟩ := list8 hyl
            clear hyl hys
            simp only [List.length_cons, List.length_nil, List.getD_cons_succ, List.getD_cons_zero] at hlong
            obtain ⟨E7, q7, rfl⟩ := own_shape hlong.1
            have hNb : ∀ b, Nv.ownBlock = some b → W0.heap.size ≤ b := fun b hb => (HN3.out.lt b hb).1
            have hO4 := (hinv.block w1.heap.size (Blk_lt HO3.out) (fun e => by have := hNb _ e; have := HO.out; omega) (fun e => by have := hNb _ e; have := HO.out; omega)).trans HO3.out
            have HO4 := Lib.hid hO4
            have HLong := Lib.hid hlong
            have HInv := Lib.hid hinv
            clear hNb hO4 hlong hinv
            simp only [List.take, List.drop, putAll]
            go_wp2_with (refine wpList_store_slice rfl 25 _ _ rfl w1.heap.size 7 rfl E7 _ q7 rfl Try.sizeSs 27 _ HO4.out (by simp) ?_)
            intro w5 hO5 hg5
            have hIns := Ins.push_name (nm := nm) HM.out.grown HXj.out HO.out HI.out HN.out HF.out (fun _ h => h.elim) HInv.out (by rw [HKn.out]; exact HLong.out) hO5 hg5
            rw [← take_succ_of Hnm.out] at hIns
            have HIns := Lib.hid hIns
            have hI5 := TwoInv.later HM.out.grown HXj.out HInv.out fun b hb => (HN3.out.lt b hb).1
            have HG5 : Hid (GrownBy W0 w5 (some w1.heap.size)) := Lib.hid (hI5.trans hg5)
            clear hIns hO5 hg5 hI5 HLong HInv HO4 HO3 HI3 HN3 HI HN HF HC3 HBl
            clear I Nv xs
            obtain ⟨I, Nv, xs, hO, hI, hN, hf⟩ := HIns.out.rows
            have hci5 : CellsAt w5 bi oi (nums.map fun n => Value.int .i64 n) := fun j u hj => (World.cell?_of_block (a := ⟨bi, oi + j, none⟩) (HG5.out.block bi (by have := Hbi0.out; have := HO.out; omega) (fun e => by injection e with e; have := Hbi0.out; omega))).trans (HCi.out j u hj)
            have hwf := HIs.out nb (List.mem_of_getElem? Hnb.out)
            have HO3 := Lib.hid hO
            have HI := Lib.hid hI
            have HN := Lib.hid hN
            have HF := Lib.hid hf
            have HC3 := Lib.hid hci5
            have HWf := Lib.hid hwf
            clear hO hI hN hf hci5 hwf
            go_wp2_with fail
            refine one_region (w3 := w5) (B := W0.heap.size) (T := 27) (TS := 24) (size := 8) (bytes := 120) (R := I) (k := k) (xs0 := xs) (news := numC nb)
              (vals := [.pointer (some ⟨w1.heap.size, 6, none⟩), I, .slice (some ⟨bi, oi, none⟩) nums.length capi, .int .i64 k, .pointer (some ⟨bi, oi + k * 1, none⟩), .int .i64 nb, .agg (numC nb).toArray]) (it := iV) (z := .agg zeroCells.toArray) 9 61 6 1 (by kernel_rfl) rfl (by kernel_rfl) (fun i hi => ?_)
              Try.underlying24 hiV hzV hsV hbV rfl (by decide) (by simp) (by simp) rfl ⟨_, rfl, rfl⟩ ⟨_, rfl, rfl⟩ ⟨by kernel_rfl, by kernel_rfl, by kernel_rfl⟩ (fun W => Try.build24 _ _ _ _ _ _ _ _ W) rfl (num_at_all HWf.out w5).one (by simp) (by have h := HI.out; rw [HKi.out] at h; exact h) HG5.out.size (by rw [maxLen_eq]; omega) (by omega) (fun i op hi ho ys W hiv hold hvat Q' K hK => ?_) ?_
            · rcases (by omega : i = 0 ∨ i = 1 ∨ i = 2 ∨ i = 3 ∨ i = 4 ∨ i = 5 ∨ i = 6 ∨ i = 7 ∨ i = 8) with rfl | rfl | rfl | rfl | rfl | rfl | rfl | rfl | rfl <;> exact ⟨_, rfl, rfl, rfl⟩
            · have hIb : ∀ b, I.ownBlock = some b → W0.heap.size ≤ b := fun b hb => (HI.out.lt b hb).1
              have cO : ∀ j u, w5.cell? ⟨w1.heap.size, j, none⟩ = some u → W.cell? ⟨w1.heap.size, j, none⟩ = some u := fun j u h => (World.cell?_of_block (a := ⟨w1.heap.size, j, none⟩) (hiv.block w1.heap.size (Blk_lt HO3.out) (fun e => by have := hIb _ e; have := HO.out; omega) (fun e => by have := hIb _ e; have := HO.out; omega))).trans h
              have cN : ∀ j u, w5.cell? ⟨bi, j, none⟩ = some u → W.cell? ⟨bi, j, none⟩ = some u := fun j u h => (World.cell?_of_block (a := ⟨bi, j, none⟩) (hiv.block bi (by have := Hbi0.out; have := HO.out; have := HG5.out.size; omega) (fun e => by have := hIb _ e; have := HO.out; have := Hbi0.out; omega) (fun e => by have := hIb _ e; have := HO.out; have := Hbi0.out; omega))).trans h
              rcases (by simp at hi; omega : i = 0 ∨ i = 1 ∨ i = 2 ∨ i = 3 ∨ i = 4 ∨ i = 5 ∨ i = 6) with rfl | rfl | rfl | rfl | rfl | rfl | rfl <;> obtain rfl := Option.some.inj ho
              · exact wp_value (exec_field _ _ _ rfl (hold 7 (by omega)) (Try.field27 w1.heap.size).2.1) hK
              · exact wp_value (exec_load_one _ _ rfl w1.heap.size 6 (hvat 0 (by simp) (by kernel_rfl)) Try.agg24 (cO 6 I (by rw [cell_of_row _ _ _ _ _ _ HO3.out]; rfl))) hK
              · exact wp_value (exec_move rfl (hold 1 (by omega))) hK
              · exact wp_value (exec_move rfl (hold 9 (by omega))) hK
              · exact wp_value (exec_index rfl (hvat 2 (by simp) (by kernel_rfl)) (hvat 3 (by simp) (by kernel_rfl)) Try.elemI Try.elemIs (by omega)) hK
              · exact wp_value (exec_load_one _ _ rfl bi (oi + k * 1) (hvat 4 (by simp) (by kernel_rfl)) Try.agg2 (cN _ _ (by rw [Nat.mul_one]; exact HC3.out k _ (by rw [List.getElem?_map, Hnb.out]; rfl)))) hK
              · refine wp_enter (exec_call Try.func28 rfl rfl rfl (args := #[.int .i64 nb]) ?_) (num_ok nb W) hK
                exact map_one (hvat 5 (by simp) (by kernel_rfl))
            intro ys w6 hyl hinv hys hlong
            obtain ⟨y0, y1, y2, y3, y4, y5, y6, y7, y8, rfl⟩ := list9 hyl
            clear hyl hys
            simp only [List.length_cons, List.length_nil, List.getD_cons_succ, List.getD_cons_zero] at hlong
            obtain ⟨E8, q8, rfl⟩ := own_shape hlong.1
            have hIb : ∀ b, I.ownBlock = some b → W0.heap.size ≤ b := fun b hb => (HI.out.lt b hb).1
            have hO4 := (hinv.block w1.heap.size (Blk_lt HO3.out) (fun e => by have := hIb _ e; have := HO.out; omega) (fun e => by have := hIb _ e; have := HO.out; omega)).trans HO3.out
            have HO4 := Lib.hid hO4
            have HLong := Lib.hid hlong
            have HInv := Lib.hid hinv
            clear hIb hO4 hlong hinv
            simp only [List.take, List.drop, putAll]
            go_wp2_with (refine wpList_store_slice rfl 24 _ _ rfl w1.heap.size 6 rfl E8 _ q8 rfl Try.sizeSl 27 _ HO4.out (by simp) ?_)
            intro w7 hO7 hg7
            have hIns := Ins.push_item (x := Val.numV nb) HIns.out.grown (Ext.refl w5) HO.out HI.out HN.out HF.out (fun _ h => h.elim) HInv.out (by rw [HKi.out]; exact HLong.out) (fun w => num_at_all HWf.out w) hO7 hg7
            have he : (nums.take k).map Val.numV ++ [Val.numV nb] = (nums.take (k + 1)).map Val.numV := by rw [take_succ_of Hnb.out]; simp
            rw [he] at hIns
            have HIns2 := Lib.hid hIns
            clear hIns hO7 hg7 he HLong HInv HO4 HO3 HI HN HF HC3 HWf HIns HG5
            go_wp2_with fail
            go_roundw
            case rel => exact ⟨k + 1, by omega, by go_num, rfl, HIns2⟩
            case measure => simp [intOf]; omega
      · have hke : k = n := by omega
        subst hke
        have hfin := HM.out.done ⟨by omega, by omega⟩ (by rw [LIM_eq, List.length_map, List.length_take]; omega) (by rw [LIM_eq, List.length_take]; omega) (fun s hs => HNs.out s (List.mem_of_mem_take hs)) (fun _ h => h.elim)
        obtain ⟨cs, hO, hat⟩ := hfin
        obtain ⟨p0, p1, p2, p3, p4, p5, p6, p7, p8, p9, pa, pb, rfl⟩ := hat.shape
        have hcl : CellsAt wr w1.heap.size 0 [.int .i64 p0, .bool p1, .int .i64 p2, .string p3, .string p4, .string p5, .slice p6 p7 p8, .slice p9 pa pb] := fun j v hj => by rw [cell_of_row _ _ _ _ _ _ hO, Nat.zero_add]; simpa using hj
        have hl0 : (names.take k).length = k := by rw [List.length_take]; omega
        have hl1 : (nums.take k).length = k := by rw [List.length_take]; omega
        have hlaw := recs_law (names := names.take k) (nums := nums.take k) (by rw [hl0, hl1]) (by rw [hl0]; exact hn15)
        have hdep := recV_dep (names.take k) (nums.take k)
        obtain ⟨⟨rc, re⟩, hrc⟩ : ∃ r, r = (recV (names.take k) (nums.take k)).canon := ⟨_, rfl⟩
        rw [← hrc] at hlaw
        have HLaw := Lib.hid hlaw
        have Hrc := Lib.hid hrc
        have HDep : Hid ((recV (names.take k) (nums.take k)).dep ≤ 1000000) := Lib.hid (by omega)
        have HXW : Hid (Ext w wr) := Lib.hid (HX1.out.trans HXr.out)
        have HL0 := Lib.hid hl0
        have HCl := Lib.hid hcl
        have HAt : Hid (InW wr (recV (names.take k) (nums.take k)) [.int .i64 p0, .bool p1, .int .i64 p2, .string p3, .string p4, .string p5, .slice p6 p7 p8, .slice p9 pa pb]) := Lib.hid hat
        clear hlaw hrc hdep hl0 hl1 hcl hat hO HM
        go_wp2_with (refine wpList_load_cells rfl 27 (.tmp 7) rfl w1.heap.size 0 rfl Try.agg27 Try.size27 rfl HCl.out ?_)
        have hc := canon_okP (recV (names.take k) (nums.take k)) _ wr [.int .i64 p0, .bool p1, .int .i64 p2, .string p3, .string p4, .string p5, .slice p6 p7 p8, .slice p9 pa pb] HDep.out (InW.lt _) HAt.out
        rw [← Hrc.out] at hc
        refine hc.mono ?_
        clear hc
        rintro e w7 ⟨cs, rfl, hat, hx⟩
        obtain ⟨q0, q1, q2, q3, q4, q5, q6, q7, q8, q9, qa, qb, rfl⟩ := hat.shape
        have Vq := Lib.hid ((InW.of hat fun b hb => hb.2).ext ((Ext.refl w7).alloc (.cells #[.int .i64 q0, .bool q1, .int .i64 q2, .string q3, .string q4, .string q5, .slice q6 q7 q8, .slice q9 qa qb] 27)))
        have Xq := Lib.hid (BoxAt.new w7 27 [.int .i64 q0, .bool q1, .int .i64 q2, .string q3, .string q4, .string q5, .slice q6 q7 q8, .slice q9 qa qb])
        have H7 := Lib.hid (hx.alloc (.cells #[.int .i64 q0, .bool q1, .int .i64 q2, .string q3, .string q4, .string q5, .slice q6 q7 q8, .slice q9 qa qb] 27))
        clear hx hat
        rcases HLaw.out with ⟨hnd, he⟩ | ⟨hnd, c, he, hl1, hl2, hst, hget⟩
        · injection he with he1 he2
          subst he1 he2
          have htw : Twice (names.take k) = true := by simp [Twice, hnd]
          rw [htw]
          obtain ⟨m1, m2⟩ := Vq.out.items
          have m3 : q7 = 0 := by simpa [Val.zero, Val.items] using m1.symm
          subst m3
          obtain ⟨d0, d1, d2, d3, d4, d5, d6, d7⟩ := Xq.out.cells
          clear htw m1 m2 hnd
          go_wp2_with fail
          go_ret
          exact ⟨rfl, HXW.out.trans H7.out⟩
        · injection he with he1 he2
          subst he1 he2
          have htw : Twice (names.take k) = false := by simp [Twice, hnd]
          rw [htw]
          have hss := Vq.out.strs
          obtain ⟨_, _, e1, s1, s2, s3, s4, s5⟩ := hss
          injection e1 with e1 e2 e3
          have hqa : k = qa := by rw [e2, hl1, HL0.out]
          subst e1 hqa
          clear e2 e3
          have HGet := Lib.hid hget
          have HStr := Lib.hid hst
          have HL1 : Hid (rc.names.length = k) := Lib.hid (by rw [hl1, HL0.out])
          have HS5 := Lib.hid s5
          rw [hl1, HL0.out] at s2
          rw [maxLen_eq] at s3
          clear hget hst hl1 hl2 s1 s4 s5 htw hnd
          obtain ⟨d0, d1, d2, d3, d4, d5, d6, d7⟩ := Xq.out.cells
          go_wp2_with fail
          clear d0 d1 d2 d3 d4 d5 d6 d7
          have HW7 := Lib.hid (HXW.out.trans H7.out)
          clear HXW H7 HCl HAt HDep HLaw Hrc HXr
          generalize hW7 : w7.alloc (.cells #[.int .i64 q0, .bool q1, .int .i64 q2, .string q3, .string q4, .string q5, .slice q6 q7 q8, .slice q9 k qb] 27) = W7 at *
          clear hW7
          go_loopw [13] (fun u wz => ∃ i : Nat, i ≤ k ∧ u = .int .i64 i ∧ Ext W7 wz) (fun u _ => k - (intOf u).toNat)
          case atStart => exact ⟨0, Nat.zero_le _, rfl, Ext.refl _⟩
          case round =>
            obtain ⟨i, hi, rfl, hext⟩ := hrel
            have HXi := Lib.hid hext
            clear hext
            by_cases hlt : i < k
            · obtain ⟨nm, hnm⟩ : ∃ nm, names[i]? = some nm := ⟨_, List.getElem?_eq_getElem (by omega)⟩
              obtain ⟨nb, hnb⟩ : ∃ nb, nums[i]? = some nb := ⟨_, List.getElem?_eq_getElem (by omega)⟩
              obtain ⟨bn, on, rfl, hbn, hcn⟩ := HNr.out (by omega)
              obtain ⟨bi, oi, rfl, hbi, hci⟩ := HIr.out (by omega)
              have hcn' := hcn.alike (S := fun b => b < w.heap.size) hbn (Alike.of_ext (HW7.out.trans HXi.out) fun _ h => h)
              have hci' := hci.alike (S := fun b => b < w.heap.size) hbi (Alike.of_ext (HW7.out.trans HXi.out) fun _ h => h)
              obtain ⟨j, hj1, hj2⟩ := HGet.out i nm nb (by rw [List.getElem?_take, if_pos hlt]; exact hnm) (by rw [List.getElem?_take, if_pos hlt]; exact hnb)
              have hy : (((rc.find nm).bind fun i => rc.items[i]?).getD .zero) = Val.numV nb := by rw [hj1]; simp [hj2]
              have hyb : (rc.find nm).isSome = true := by rw [hj1]; rfl
              have hbn' : bn < wr.heap.size := Nat.lt_of_lt_of_le hbn (HW7.out.trans HXi.out).size
              have hbi' : bi < wr.heap.size := Nat.lt_of_lt_of_le hbi (HW7.out.trans HXi.out).size
              have HCn := Lib.hid hcn'
              have HCi := Lib.hid hci'
              have HY := Lib.hid hy
              have HYb := Lib.hid hyb
              have Hnm := Lib.hid hnm
              have Hnb := Lib.hid hnb
              have Hbn := Lib.hid hbn'
              have Hbi := Lib.hid hbi'
              clear hcn hci hcn' hci' hj1 hj2 hy hyb hnm hnb hbn hbi hbn' hbi' j
              go_wp2_with fail
              refine region_inv 11 (GetJ wr [.int .i64 q0, .bool q1, .int .i64 q2, .string q3, .string q4, .string q5, .slice q6 q7 q8, .slice q9 k qb] (.slice (some ⟨bn, on, none⟩) names.length capn) (.pointer (some ⟨bn, on + i * 1, none⟩)) i nm (Val.numV nb) true) (by kernel_rfl) (by kernel_rfl) (by kernel_rfl) (fun L L' xs w he h => h.congr he) (fun xs _ => GetJ.start xs)
                (fun j op hj ho L ys W a hyl hJ hL hw hcl hold hat Q' K hK => ?_) ?_
              · have hW := hJ.1
                have hf : ∀ m t, m < 9 → waits _ j m = true → dstIs _ m t = true → getΦ wr [.int .i64 q0, .bool q1, .int .i64 q2, .string q3, .string q4, .string q5, .slice q6 q7 q8, .slice q9 k qb] (.slice (some ⟨bn, on, none⟩) names.length capn) (.pointer (some ⟨bn, on + i * 1, none⟩)) i nm (Val.numV nb) true m (a.eval (.tmp t)) W := fun m t hm hwt hdt => by
                  rw [hat m t (by omega) hdt]; exact hJ.2.1 m hm (hw m (by omega) hwt)
                rcases (by omega : j = 0 ∨ j = 1 ∨ j = 2 ∨ j = 3 ∨ j = 4 ∨ j = 5 ∨ j = 6 ∨ j = 7 ∨ j = 8 ∨ j = 9 ∨ j = 10) with rfl | rfl | rfl | rfl | rfl | rfl | rfl | rfl | rfl | rfl | rfl <;> obtain rfl := Option.some.inj ho
                · exact wp_leaves (exec_load_cells _ _ rfl w7.heap.size 0 (hold 11 (by kernel_rfl)) Try.agg27 Try.size27 rfl (Xq.out.ext (HXi.out.trans hW)).2) (Ext.refl W) rfl fun v w' hx hv => hK v w' (hJ.one hyl (by omega) hx hv)
                · exact wp_leaves (exec_move rfl (hold 0 (by kernel_rfl))) (Ext.refl W) rfl fun v w' hx hv => hK v w' (hJ.one hyl (by omega) hx hv)
                · exact wp_leaves (exec_move rfl (hold 13 (by kernel_rfl))) (Ext.refl W) rfl fun v w' hx hv => hK v w' (hJ.one hyl (by omega) hx hv)
                · exact wp_leaves (exec_index rfl (hf 1 101 (by omega) (by kernel_rfl) (by kernel_rfl)) (hf 2 102 (by omega) (by kernel_rfl) (by kernel_rfl)) Try.elemS Try.elemSs (by omega)) (Ext.refl W) rfl fun v w' hx hv => hK v w' (hJ.one hyl (by omega) hx hv)
                · exact wp_leaves (exec_load_one _ _ rfl bn (on + i * 1) (hf 3 103 (by omega) (by kernel_rfl) (by kernel_rfl)) Try.agg9 ((World.cell?_of_block (a := ⟨bn, on + i * 1, none⟩) (hW.block bn Hbn.out)).trans (by rw [Nat.mul_one]; exact HCn.out i _ (by rw [List.getElem?_map, Hnm.out]; rfl)))) (Ext.refl W) rfl fun v w' hx hv => hK v w' (hJ.one hyl (by omega) hx hv)
                · refine wp_enters (exec_call Try.func22 rfl rfl rfl (args := #[.agg [.int .i64 q0, .bool q1, .int .i64 q2, .string q3, .string q4, .string q5, .slice q6 q7 q8, .slice q9 k qb].toArray, .string nm]) (map_two (getΦ.at0 (hf 0 100 (by omega) (by kernel_rfl) (by kernel_rfl))) (getΦ.at4 (hf 4 104 (by omega) (by kernel_rfl) (by kernel_rfl))))) ?_ fun v w' hx hv => hK v w' (hJ.one hyl (by omega) hx hv)
                  refine (get_ok rc nm (fun b => b < wr.heap.size) W [.int .i64 q0, .bool q1, .int .i64 q2, .string q3, .string q4, .string q5, .slice q6 q7 q8, .slice q9 k qb] (fun b hb => Nat.lt_of_lt_of_le hb hW.size) ((Vq.out.ext HXi.out).alike (Alike.of_ext hW fun _ h => h))).mono ?_
                  rintro e w' ⟨cs, rfl, hat, hx⟩
                  rw [HY.out] at hat
                  rw [HYb.out]
                  exact ⟨_, rfl, hx, Nat.le_trans hW.size hx.size, cs, rfl, hat⟩
                · obtain ⟨h1, cs, h2, h3⟩ := hf 5 105 (by omega) (by kernel_rfl) (by kernel_rfl)
                  exact wp_leaves (exec_move rfl h2) (Ext.refl W) ⟨h1, cs, rfl, h3⟩ fun v w' hx hv => hK v w' (hJ.one hyl (by omega) hx hv)
                · obtain ⟨h1, cs, h2, h3⟩ := hf 6 99 (by omega) (by kernel_rfl) (by kernel_rfl)
                  exact wp_leaves (exec_extract rfl h2 rfl) (Ext.refl W) ⟨h1, cs, rfl, h3⟩ fun v w' hx hv => hK v w' (hJ.one hyl (by omega) hx hv)
                · obtain ⟨h1, cs, h2, h3⟩ := hf 6 99 (by omega) (by kernel_rfl) (by kernel_rfl)
                  exact wp_leaves (exec_extract rfl h2 rfl) (Ext.refl W) rfl fun v w' hx hv => hK v w' (hJ.one hyl (by omega) hx hv)
                · have h10 : L 10 = false := by
                    cases h : L 10 with
                    | false => rfl
                    | true => rw [hcl 10 9 (by omega) (by omega) h (by kernel_rfl)] at hL; cases hL
                  unfold Oper.wp
                  rw [exec_alloc rfl (Try.alloc27 W)]
                  exact hK _ _ (hJ.box hyl h10)
                · obtain ⟨g, cur, e1, e2, e3, e4, _⟩ := hJ.2.2 (hw 9 (by omega) (by kernel_rfl))
                  obtain ⟨h1, cs, h2, h3⟩ := hf 7 106 (by omega) (by kernel_rfl) (by kernel_rfl)
                  unfold Oper.wp
                  rw [exec_store_whole rfl ((hat 9 14 (by omega) (by kernel_rfl)).trans e1) h2 Try.size27 h3.length e3 (by rw [h3.length, e4]) h3.one]
                  exact hK _ _ (hJ.store e1 e2 e3 h3)
              intro L ys w5 hyl hall hJ
              obtain ⟨y0, y1, y2, y3, y4, y5, y6, y7, y8, y9, y10, rfl⟩ := list11 hyl
              obtain ⟨hxg, hJ1, hJ2⟩ := hJ
              have h8 := hJ1 8 (by omega) (hall 8 (by omega))
              obtain ⟨g, cur, h9, hg, hh, _, hcs⟩ := hJ2 (hall 9 (by omega))
              obtain ⟨cr, rfl, hra⟩ := hcs (hall 10 (by omega))
              clear hJ1 hJ2 hall hyl hcs
              have h8 : y8 = .bool true := h8
              have h9 : y9 = .pointer (some ⟨g, 0, none⟩) := h9
              subst h8 h9
              obtain ⟨r0, r1, r2, r3, r4, r5, r6, r7, r8, r9, ra, rb, rfl⟩ := hra.shape
              have hr2 : r2 = nb := by
                unfold Val.numV Val.At at hra
                obtain ⟨_, _, _, he, _⟩ := hra
                simp at he
                exact he.2.2.1
              have hcg : CellsAt w5 g 0 [.int .i64 r0, .bool r1, .int .i64 r2, .string r3, .string r4, .string r5, .slice r6 r7 r8, .slice r9 ra rb] := fun j v hj => by rw [cell_of_row _ _ _ _ _ _ hh, Nat.zero_add]; simpa using hj
              clear hra hh
              simp only [List.take, List.drop, putAll]
              have HXg := Lib.hid hxg
              have HXi2 := Lib.hid (HXi.out.trans hxg)
              have c0 : w5.cell? ⟨g, 2, none⟩ = some (.int .i64 nb) := by rw [← hr2]; simpa using hcg 2 _ rfl
              have c1 : w5.cell? ⟨bi, oi + i, none⟩ = some (.int .i64 nb) := (World.cell?_of_block (a := ⟨bi, oi + i, none⟩) (hxg.block bi Hbi.out)).trans (HCi.out i _ (by rw [List.getElem?_map, Hnb.out]; rfl))
              have q0 : i < nums.length := by omega
              clear hcg hr2 hg hxg
              by_cases hi0 : i = 0
              case' pos =>
                have t0 : decide (0 < i) = false := by simp; omega
                have f0 := cell_regrown c0
                have f1 := cell_regrown c1
                clear hi0 c0 c1
                go_wp2_with fail
                refine region_later (by kernel_rfl) (by kernel_rfl) ?_
                repeat (go_big_quiet_step (fail))
                refine wpQuiet_nil ?_
                intro x3 hx3
                have HX3 := Lib.hid hx3
                clear hx3 f0 f1
                go_wp2_with fail
              case' neg =>
                have t0 : decide (0 < i) = true := by simp; omega
                obtain ⟨bs, os, rfl, hbs, hcs⟩ := HS5.out (by rw [HL1.out]; omega)
                obtain ⟨sa, hsa⟩ : ∃ s, rc.names[i - 1]? = some s := ⟨_, List.getElem?_eq_getElem (by rw [HL1.out]; omega)⟩
                obtain ⟨sb, hsb⟩ : ∃ s, rc.names[i]? = some s := ⟨_, List.getElem?_eq_getElem (by rw [HL1.out]; omega)⟩
                have hcs' := hcs.alike (S := fun b => b < W7.heap.size) hbs (Alike.of_ext HXi2.out fun _ h => h)
                have hless : Op.bytesLess sa.toList sb.toList = true := by
                  obtain ⟨h1, e1⟩ := List.getElem?_eq_some_iff.1 hsa
                  obtain ⟨h2, e2⟩ := List.getElem?_eq_some_iff.1 hsb
                  have := List.pairwise_iff_getElem.1 HStr.out (i - 1) i h1 h2 (by omega)
                  rw [e1, e2] at this
                  rw [bytesLess_cmpL]
                  exact decide_eq_true this
                obtain ⟨d0, d1, d2, d3, d4, d5, d6, d7⟩ := (Xq.out.ext HXi2.out).cells
                have f0 := cell_regrown c0
                have f1 := cell_regrown c1
                have f2 := cell_regrown d7
                have f3 := cell_regrown (show w5.cell? ⟨bs, os + (i - 1), none⟩ = some (.string sa) from hcs' (i - 1) _ (by rw [List.getElem?_map, hsa]; rfl))
                have f4 := cell_regrown (show w5.cell? ⟨bs, os + i, none⟩ = some (.string sb) from hcs' i _ (by rw [List.getElem?_map, hsb]; rfl))
                have q1 : IntKind.i64.wrap ((i : Int) - 1) = ((i - 1 : Nat) : Int) := by rw [show (i : Int) - 1 = ((i - 1 : Nat) : Int) by omega]; exact IntWalk.i64_in _ (by omega)
                have q2 : (0 : Int) ≤ ((i - 1 : Nat) : Int) := by omega
                have q3 : ((i - 1 : Nat) : Int) < k := by omega
                have q4 : i - 1 < k := by omega
                clear hi0 c0 c1 d0 d1 d2 d3 d4 d5 d6 d7 hcs' hcs hsa hsb hbs
                go_wp2_with fail
                refine region_later (by kernel_rfl) (by kernel_rfl) ?_
                repeat (go_big_quiet_step (fail))
                refine wpQuiet_nil ?_
                intro x3 hx3
                have HX3 := Lib.hid hx3
                clear hx3 f0 f1 f2 f3 f4 q1 q2 q3 q4 hless
                go_wp2_with fail
              all_goals
                go_roundw
                case rel => exact ⟨i + 1, by omega, by go_num, HXi2.out.trans HX3.out⟩
                case measure => simp [intOf]; omega
            · have hie : i = k := by omega
              subst hie
              go_wp2_with fail
              go_ret
              exact ⟨rfl, HW7.out.trans HXi.out⟩
end Go.Proofs.Ytpkgkabcikmopaa
